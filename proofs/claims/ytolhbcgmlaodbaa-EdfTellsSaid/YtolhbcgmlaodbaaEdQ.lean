/-
  Layer 42: by the earliest deadline nothing is missed just if works fit: plain. No program in sight.
-/
import Derived.Test.YtolhbcgmlaodbaaRows
import Derived.WalkKit
import Derived.WalkSpells
import Derived.WalkLawsBesides
import Derived.Lib.Mul64
import Derived.BigQuiet
import Derived.Test.YtolhbcgmlaodbaaLift
import Derived.Test.YtolhbcgmlaodbaaHeapS
namespace Go.Proofs.Ytolhbcgmlaodbaa
open Go.RowKit
/-! Numbers of 64 bits, their sums and products, under names: no walk looks into them. -/
def top64 : Int := 18446744073709551616
def sumF (a b c : Int) : Int := (a + b + c) % top64
def carF (a b c : Int) : Int := (a + b + c) / top64
def difF (a b c : Int) : Int := (a - b - c) % top64
def borF (a b c : Int) : Int := if a < b + c then 1 else 0
def hiF (a b : Int) : Int := a * b / top64
def loF (a b : Int) : Int := a * b % top64
theorem hi_word {a b : Int} (ha : U64 a) (hb : U64 b) : U64 (hiF a b) := by
  unfold hiF top64
  refine ⟨Int.ediv_nonneg (Int.mul_nonneg ha.1 hb.1) (by omega), Int.ediv_lt_of_lt_mul (by omega) ?_⟩
  have := Int.mul_le_mul_of_nonneg_left (show b ≤ 18446744073709551616 by have := hb.2; omega) ha.1
  have := ha.2
  omega
theorem lo_word (a b : Int) : U64 (loF a b) := by
  unfold loF top64
  exact ⟨by omega, by omega⟩
theorem dec_cases (p : Prop) [Decidable p] : decide p = true ∨ decide p = false := by by_cases h : p <;> simp [h]
theorem beq_cases (a b : Int) : (a == b) = true ∨ (a == b) = false := by by_cases h : a = b <;> simp [h]
theorem bne_cases (a b : Int) : (a != b) = true ∨ (a != b) = false := by by_cases h : a = b <;> simp [h]
theorem mul64_mask (a : Nat) (ha : a < 18446744073709551616) : bits .and .u64 (a : Int) 4294967295 = ((a % 4294967296 : Nat) : Int) := by
  have h := u64_and_nat a 4294967295 ha (by omega)
  have e : a &&& 4294967295 = a % 4294967296 := Nat.and_two_pow_sub_one_eq_mod a 32
  rw [e] at h
  exact h
theorem divN (a : Nat) : (a : Int) / 4294967296 = ((a / 4294967296 : Nat) : Int) := by omega
theorem mulN (a b : Nat) : (a : Int) * (b : Int) = ((a * b : Nat) : Int) := (Int.natCast_mul a b).symm
theorem addN (a b : Nat) : (a : Int) + (b : Int) = ((a + b : Nat) : Int) := (Int.natCast_add a b).symm
theorem wrapN (a : Nat) (ha : a < 18446744073709551616) : IntKind.u64.wrap (a : Int) = (a : Int) := by rw [IntKind.wrap_u64]; omega
theorem wrapM (a : Nat) : IntKind.u64.wrap (a : Int) = ((a % 18446744073709551616 : Nat) : Int) := by rw [IntKind.wrap_u64]; omega
/-! Layer 1. -/
def addF (a b : Int) : Int := if carF a b 0 == 0 then sumF a b 0 else 18446744073709551615
def addE (a b : Int) : Int := if carF a b 0 == 0 then 0 else 2
def subF (a b : Int) : Int := if decide (a < b) then 0 else a - b
def subE (a b : Int) : Int := if decide (a < b) then 2 else 0
def mulF (a b : Int) : Int := if hiF a b == 0 then loF a b else 18446744073709551615
def mulE (a b : Int) : Int := if hiF a b == 0 then 0 else 2
theorem bne_of {a b : Int} {c : Bool} (h : (a == b) = c) : (a != b) = !c := by rw [bne, h]
end Go.Proofs.Ytolhbcgmlaodbaa
namespace Go.Proofs.Ytolhbcgmlaodbaa
/-- One work. -/
structure Wk where
  c : Int
  p : Int
  d : Int
instance : Inhabited Wk := ⟨⟨1, 1, 1⟩⟩
def wk (l : List Wk) (k : Nat) : Wk := l[k]?.getD default
def WkOk (x : Wk) : Prop := (1 ≤ x.c ∧ x.c ≤ 100) ∧ (1 ≤ x.p ∧ x.p ≤ 1000) ∧ (1 ≤ x.d ∧ x.d ≤ 1000)
theorem wk_ok {l : List Wk} (h : ∀ x ∈ l, WkOk x) (k : Nat) : WkOk (wk l k) := by
  unfold wk
  cases e : l[k]? with
  | none => exact ⟨⟨by decide, by decide⟩, ⟨by decide, by decide⟩, ⟨by decide, by decide⟩⟩
  | some x => exact h x (List.mem_of_getElem? e)
end Go.Proofs.Ytolhbcgmlaodbaa
namespace Go.Proofs.Ytolhbcgmlaodbaa
/-- What one needs, up to a time. -/
def needE (x : Wk) (t : Int) : Int := if t < x.d then 0 else ((t - x.d) / x.p + 1) * x.c
def demK (l : List Wk) (t : Int) : Nat → Int
  | 0 => 0
  | k + 1 => demK l t k + needE (wk l k) t
def demE (l : List Wk) (t : Int) : Int := demK l t l.length
theorem wk_get {l : List Wk} {k : Nat} (h : k < l.length) : wk l k = l[k] := by simp [wk, h]
theorem wk_cons (x : Wk) (l : List Wk) (k : Nat) : wk (x :: l) (k + 1) = wk l k := by simp [wk]
theorem demK_cons (x : Wk) (l : List Wk) (t : Int) : ∀ k, demK (x :: l) t (k + 1) = needE x t + demK l t k
  | 0 => by simp [demK, wk]
  | k + 1 => by
    rw [demK, demK_cons x l t k, demK, wk_cons]; omega
theorem demE_nil (t : Int) : demE [] t = 0 := rfl
theorem demE_cons (x : Wk) (l : List Wk) (t : Int) : demE (x :: l) t = needE x t + demE l t := demK_cons x l t l.length
theorem demE_append (t : Int) : ∀ a b : List Wk, demE (a ++ b) t = demE a t + demE b t
  | [], b => by rw [demE_nil, List.nil_append, Int.zero_add]
  | x :: a, b => by rw [List.cons_append, demE_cons, demE_cons, demE_append t a b, Int.add_assoc]
theorem needE_in {x : Wk} (h : WkOk x) {t : Int} (ht : t ≤ 100000) : 0 ≤ needE x t ∧ needE x t ≤ 10000000 := by
  obtain ⟨⟨c0, c1⟩, ⟨p0, p1⟩, ⟨d0, d1⟩⟩ := h
  unfold needE
  split
  · omega
  · have h1 : 0 ≤ (t - x.d) / x.p := Int.ediv_nonneg (by omega) (by omega)
    have h2 : (t - x.d) / x.p ≤ t - x.d := Int.ediv_le_self _ (by omega)
    refine ⟨Int.mul_nonneg (by omega) (by omega), ?_⟩
    have h3 : (t - x.d) / x.p + 1 ≤ 100000 := by omega
    exact Int.mul_le_mul h3 c1 (by omega) (by omega)
theorem demK_in {l : List Wk} (h : ∀ x ∈ l, WkOk x) {t : Int} (ht : t ≤ 100000) : ∀ k : Nat, 0 ≤ demK l t k ∧ demK l t k ≤ k * 10000000
  | 0 => by simp [demK]
  | k + 1 => by
    have := demK_in h ht k
    have := needE_in (wk_ok h k) ht
    rw [demK]; omega
theorem demE_zero {l : List Wk} (h : ∀ x ∈ l, WkOk x) {t : Int} (ht : t ≤ 0) : demE l t = 0 := by
  have : ∀ k, demK l t k = 0 := by
    intro k
    induction k with
    | zero => rfl
    | succ k ih =>
      have hd := (wk_ok h k).2.2.1
      rw [demK, ih, needE, if_pos (by omega)]; rfl
  exact this _
/-- Brought to 0 up to 100000. -/
def farE (t : Int) : Int := min (max t 0) 100000
/-- The first time, from 1 up to u, at which more is needed than there is; 0: none. -/
def fitsN (l : List Wk) : Nat → Nat
  | 0 => 0
  | u + 1 => if fitsN l u ≠ 0 then fitsN l u else if ((u + 1 : Nat) : Int) < demE l ((u + 1 : Nat) : Int) then u + 1 else 0
theorem fitsN_spec (l : List Wk) : ∀ u : Nat, (fitsN l u = 0 ∧ ∀ t : Nat, 1 ≤ t → t ≤ u → demE l t ≤ t) ∨ (1 ≤ fitsN l u ∧ fitsN l u ≤ u ∧ ((fitsN l u : Nat) : Int) < demE l (fitsN l u : Nat) ∧ ∀ t : Nat, 1 ≤ t → t < fitsN l u → demE l t ≤ t)
  | 0 => .inl ⟨rfl, fun t h1 h2 => by omega⟩
  | u + 1 => by
    rcases fitsN_spec l u with ⟨h1, h2⟩ | ⟨h1, h2, h3, h4⟩
    · by_cases h : ((u + 1 : Nat) : Int) < demE l ((u + 1 : Nat) : Int)
      · have e : fitsN l (u + 1) = u + 1 := by rw [fitsN, h1, if_neg (by simp), if_pos h]
        rw [e]
        exact .inr ⟨by omega, Nat.le_refl _, h, fun t a b => h2 t a (by omega)⟩
      · have e : fitsN l (u + 1) = 0 := by rw [fitsN, h1, if_neg (by simp), if_neg h]
        rw [e]
        refine .inl ⟨rfl, fun t a b => ?_⟩
        by_cases hb : t = u + 1
        · subst hb; omega
        · exact h2 t a (by omega)
    · have e : fitsN l (u + 1) = fitsN l u := by rw [fitsN, if_pos (by omega)]
      rw [e]
      exact .inr ⟨h1, by omega, h3, h4⟩
/-- It is told by its law. -/
theorem fitsN_zero {l : List Wk} {u : Nat} (h : ∀ t : Nat, 1 ≤ t → t ≤ u → demE l t ≤ t) : fitsN l u = 0 := by
  rcases fitsN_spec l u with ⟨h1, _⟩ | ⟨h1, h2, h3, _⟩
  · exact h1
  · have := h _ h1 h2; omega
theorem fitsN_at {l : List Wk} {u k : Nat} (h1 : 1 ≤ k) (h2 : k ≤ u) (h3 : (k : Int) < demE l k) (h4 : ∀ t : Nat, 1 ≤ t → t < k → demE l t ≤ t) : fitsN l u = k := by
  rcases fitsN_spec l u with ⟨_, g⟩ | ⟨g1, g2, g3, g4⟩
  · have := g k h1 h2; omega
  · have a : ¬ fitsN l u < k := fun h => by have := h4 _ g1 h; omega
    have b : ¬ k < fitsN l u := fun h => by have := g4 k h1 h; omega
    omega
theorem fitsN_iff (l : List Wk) (u : Nat) : fitsN l u = 0 ↔ ∀ t : Nat, 1 ≤ t → t ≤ u → demE l t ≤ t := by
  constructor
  · intro h
    rcases fitsN_spec l u with ⟨_, g⟩ | ⟨g1, _⟩
    · exact g
    · omega
  · exact fitsN_zero
end Go.Proofs.Ytolhbcgmlaodbaa
namespace Go.Proofs.Ytolhbcgmlaodbaa
def lcE (s : Nat × Nat) (x : Wk) : Nat := s.2 / Nat.gcd s.2 x.p.toNat * x.p.toNat
def tpE (s : Nat × Nat) (x : Wk) : Nat := s.1 * (lcE s x / s.2) + x.c.toNat * (lcE s x / x.p.toNat)
def gcE (s : Nat × Nat) (x : Wk) : Nat := Nat.gcd (tpE s x) (lcE s x)
def ldS (s : Nat × Nat) (x : Wk) : Nat × Nat := (tpE s x / gcE s x, lcE s x / gcE s x)
def ldK (l : List Wk) : Nat → Nat × Nat
  | 0 => (0, 1)
  | k + 1 => ldS (ldK l k) (wk l k)
def ldE (l : List Wk) : Nat × Nat := ldK l l.length
section
variable {s : Nat × Nat} {x : Wk}
theorem lc_eq (hs : 1 ≤ s.2) (hp : 1 ≤ x.p.toNat) : lcE s x = s.2 * (x.p.toNat / Nat.gcd s.2 x.p.toNat) := by
  unfold lcE
  have h1 := Nat.gcd_dvd_left s.2 x.p.toNat
  have h2 := Nat.gcd_dvd_right s.2 x.p.toNat
  rw [← Nat.mul_div_assoc _ h2, Nat.mul_comm, ← Nat.mul_div_assoc _ h1, Nat.mul_comm]
theorem gcd_pos1 (hs : 1 ≤ s.2) : 0 < Nat.gcd s.2 x.p.toNat := Nat.gcd_pos_of_pos_left _ hs
theorem lc_pos (hs : 1 ≤ s.2) (hp : 1 ≤ x.p.toNat) : 1 ≤ lcE s x := by
  rw [lc_eq hs hp]
  have := Nat.div_pos (Nat.gcd_le_right s.2 hp) (gcd_pos1 (x := x) hs)
  exact Nat.mul_pos hs this
theorem lc_div1 (hs : 1 ≤ s.2) (hp : 1 ≤ x.p.toNat) : lcE s x / s.2 = x.p.toNat / Nat.gcd s.2 x.p.toNat := by
  rw [lc_eq hs hp]; exact Nat.mul_div_cancel_left _ hs
theorem lc_div2 (hp : 1 ≤ x.p.toNat) : lcE s x / x.p.toNat = s.2 / Nat.gcd s.2 x.p.toNat := by
  unfold lcE; exact Nat.mul_div_cancel _ hp
theorem lc_dvd1 (hs : 1 ≤ s.2) (hp : 1 ≤ x.p.toNat) : s.2 * (lcE s x / s.2) = lcE s x := by
  rw [lc_div1 hs hp, lc_eq hs hp]
theorem lc_dvd2 (hp : 1 ≤ x.p.toNat) : lcE s x / x.p.toNat * x.p.toNat = lcE s x := by
  rw [lc_div2 hp]; rfl
theorem gc_pos (hs : 1 ≤ s.2) (hp : 1 ≤ x.p.toNat) : 1 ≤ gcE s x := Nat.gcd_pos_of_pos_right _ (lc_pos hs hp)
theorem ld_mul1 : (ldS s x).1 * gcE s x = tpE s x := Nat.div_mul_cancel (Nat.gcd_dvd_left _ _)
theorem ld_mul2 : (ldS s x).2 * gcE s x = lcE s x := Nat.div_mul_cancel (Nat.gcd_dvd_right _ _)
theorem ld_pos (hs : 1 ≤ s.2) (hp : 1 ≤ x.p.toNat) : 1 ≤ (ldS s x).2 := by
  rcases Nat.eq_zero_or_pos (ldS s x).2 with e | e
  · have := ld_mul2 (s := s) (x := x); rw [e, Nat.zero_mul] at this; have := lc_pos hs hp; omega
  · exact e
/-- How great they may be. -/
def LB (k : Nat) (s : Nat × Nat) : Prop := 1 ≤ s.2 ∧ s.2 ≤ 1000 ^ k ∧ s.1 * 1000 ≤ 100 * k * 1000 ^ k
theorem LB.step {k : Nat} (h : LB k s) (hx : WkOk x) : lcE s x ≤ 1000 ^ (k + 1) ∧ s.1 * (lcE s x / s.2) ≤ 100 * k * 1000 ^ k ∧ lcE s x / x.p.toNat ≤ 1000 ^ k ∧ x.c.toNat * (lcE s x / x.p.toNat) ≤ 100 * 1000 ^ k ∧ tpE s x ≤ 100 * (k + 1) * 1000 ^ k ∧ LB (k + 1) (ldS s x) := by
  obtain ⟨h1, h2, h3⟩ := h
  obtain ⟨⟨c0, c1⟩, ⟨p0, p1⟩, _⟩ := hx
  have hp : 1 ≤ x.p.toNat := by omega
  have hp2 : x.p.toNat ≤ 1000 := by omega
  have hc2 : x.c.toNat ≤ 100 := by omega
  have a1 : lcE s x / s.2 ≤ 1000 := by rw [lc_div1 h1 hp]; exact Nat.le_trans (Nat.div_le_self _ _) hp2
  have a2 : lcE s x / x.p.toNat ≤ 1000 ^ k := by rw [lc_div2 hp]; exact Nat.le_trans (Nat.div_le_self _ _) h2
  have a3 : lcE s x ≤ 1000 ^ (k + 1) := by
    rw [← lc_dvd2 (s := s) hp, Nat.pow_succ]
    exact Nat.mul_le_mul a2 hp2
  have a4 : s.1 * (lcE s x / s.2) ≤ 100 * k * 1000 ^ k := Nat.le_trans (Nat.mul_le_mul_left _ a1) h3
  have a5 : x.c.toNat * (lcE s x / x.p.toNat) ≤ 100 * 1000 ^ k := Nat.mul_le_mul hc2 a2
  have a6 : tpE s x ≤ 100 * (k + 1) * 1000 ^ k := by
    unfold tpE
    rw [Nat.mul_add, Nat.add_mul]
    omega
  refine ⟨a3, a4, a2, a5, a6, ld_pos h1 hp, Nat.le_trans (Nat.div_le_self _ _) a3, ?_⟩
  refine Nat.le_trans (Nat.mul_le_mul_right _ (Nat.div_le_self _ _)) ?_
  rw [Nat.pow_succ, ← Nat.mul_assoc]
  exact Nat.mul_le_mul_right _ a6
end
theorem LB.zero : LB 0 (0, 1) := ⟨Nat.le_refl _, by simp, by simp⟩
theorem ld_bound {l : List Wk} (h : ∀ x ∈ l, WkOk x) : ∀ k, LB k (ldK l k)
  | 0 => LB.zero
  | k + 1 => ((ld_bound h k).step (wk_ok h k)).2.2.2.2.2
theorem pow_le5 {k : Nat} (h : k ≤ 5) : 1000 ^ k ≤ 1000000000000000 := Nat.le_trans (Nat.pow_le_pow_right (by omega) h) (by decide)
/-- All that a round makes, and that it is small. -/
theorem ld_round {k : Nat} (hk : k ≤ 5) {s : Nat × Nat} {x : Wk} (h : LB k s) (hx : WkOk x) :
    s.2 ≤ 1000000000000000 ∧ s.1 ≤ 500000000000000 ∧ lcE s x ≤ 1000000000000000000 ∧ s.1 * (lcE s x / s.2) ≤ 500000000000000000 ∧ lcE s x / x.p.toNat ≤ 1000000000000000 ∧ x.c.toNat * (lcE s x / x.p.toNat) ≤ 100000000000000000 ∧ tpE s x ≤ 600000000000000000 := by
  obtain ⟨a1, a2, a3, a4, a5, _⟩ := h.step hx
  have hp := pow_le5 hk
  obtain ⟨_, h2, h3⟩ := h
  have e1 : 100 * k * 1000 ^ k ≤ 100 * 5 * 1000000000000000 := Nat.mul_le_mul (Nat.mul_le_mul_left _ hk) hp
  have e2 : 100 * (k + 1) * 1000 ^ k ≤ 100 * 6 * 1000000000000000 := Nat.mul_le_mul (Nat.mul_le_mul_left _ (by omega)) hp
  have e3 : (1000 : Nat) ^ (k + 1) ≤ 1000000000000000 * 1000 := by rw [Nat.pow_succ]; exact Nat.mul_le_mul_right _ hp
  refine ⟨by omega, by omega, by omega, by omega, by omega, by omega, by omega⟩
/-! The sum of the fractions, over one number. -/
def frK (l : List Wk) : Nat → Nat × Nat
  | 0 => (0, 1)
  | k + 1 => ((frK l k).1 * (wk l k).p.toNat + (wk l k).c.toNat * (frK l k).2, (frK l k).2 * (wk l k).p.toNat)
theorem fr_pos {l : List Wk} (h : ∀ x ∈ l, WkOk x) : ∀ k, 1 ≤ (frK l k).2
  | 0 => Nat.le_refl _
  | k + 1 => Nat.mul_pos (fr_pos h k) (by have := (wk_ok h k).2.1.1; omega)
theorem fr_step {s f : Nat × Nat} {x : Wk} (hs : 1 ≤ s.2) (hp : 1 ≤ x.p.toNat) (h : s.1 * f.2 = s.2 * f.1) : (ldS s x).1 * (f.2 * x.p.toNat) = (ldS s x).2 * (f.1 * x.p.toNat + x.c.toNat * f.2) := by
  have hg := gc_pos hs hp
  apply Nat.eq_of_mul_eq_mul_left hg
  have e1 : gcE s x * ((ldS s x).1 * (f.2 * x.p.toNat)) = tpE s x * (f.2 * x.p.toNat) := by rw [← Nat.mul_assoc, Nat.mul_comm (gcE s x), ld_mul1]
  have e2 : gcE s x * ((ldS s x).2 * (f.1 * x.p.toNat + x.c.toNat * f.2)) = lcE s x * (f.1 * x.p.toNat + x.c.toNat * f.2) := by rw [← Nat.mul_assoc, Nat.mul_comm (gcE s x), ld_mul2]
  rw [e1, e2]
  have d1 := lc_dvd1 hs hp
  have d2 := lc_dvd2 (s := s) hp
  unfold tpE
  generalize lcE s x / s.2 = q at *
  generalize lcE s x / x.p.toNat = r at *
  generalize x.p.toNat = p at *
  generalize x.c.toNat = c at *
  rw [Nat.add_mul, Nat.mul_add]
  congr 1
  · calc s.1 * q * (f.2 * p) = (s.1 * f.2) * (q * p) := by ac_rfl
      _ = (s.2 * f.1) * (q * p) := by rw [h]
      _ = (s.2 * q) * (f.1 * p) := by ac_rfl
      _ = lcE s x * (f.1 * p) := by rw [d1]
  · calc c * r * (f.2 * p) = (r * p) * (c * f.2) := by ac_rfl
      _ = lcE s x * (c * f.2) := by rw [d2]
theorem ld_fr {l : List Wk} (h : ∀ x ∈ l, WkOk x) : ∀ k, (ldK l k).1 * (frK l k).2 = (ldK l k).2 * (frK l k).1
  | 0 => by simp [ldK, frK]
  | k + 1 => fr_step (ld_bound h k).1 (by have := (wk_ok h k).2.1.1; omega) (ld_fr h k)
theorem wk_append1 (a b : List Wk) {k : Nat} (h : k < a.length) : wk (a ++ b) k = wk a k := by
  unfold wk; rw [List.getElem?_append_left h]
theorem wk_append2 (a b : List Wk) (k : Nat) : wk (a ++ b) (a.length + k) = wk b k := by
  unfold wk; rw [List.getElem?_append_right (by omega), Nat.add_sub_cancel_left]
theorem fr_append1 (a b : List Wk) : ∀ k, k ≤ a.length → frK (a ++ b) k = frK a k
  | 0, _ => rfl
  | k + 1, h => by rw [frK, frK, fr_append1 a b k (by omega), wk_append1 a b (by omega)]
theorem fr_append2 (a b : List Wk) : ∀ k, (frK (a ++ b) (a.length + k)).1 = (frK a a.length).1 * (frK b k).2 + (frK b k).1 * (frK a a.length).2 ∧ (frK (a ++ b) (a.length + k)).2 = (frK a a.length).2 * (frK b k).2
  | 0 => by rw [Nat.add_zero, fr_append1 a b _ (Nat.le_refl _)]; simp [frK]
  | k + 1 => by
    obtain ⟨h1, h2⟩ := fr_append2 a b k
    rw [← Nat.add_assoc, frK, wk_append2, h1, h2, frK]
    constructor
    · show ((frK a a.length).1 * (frK b k).2 + (frK b k).1 * (frK a a.length).2) * (wk b k).p.toNat + (wk b k).c.toNat * ((frK a a.length).2 * (frK b k).2) = (frK a a.length).1 * ((frK b k).2 * (wk b k).p.toNat) + ((frK b k).1 * (wk b k).p.toNat + (wk b k).c.toNat * (frK b k).2) * (frK a a.length).2
      rw [Nat.add_mul, Nat.add_mul, Nat.add_assoc]
      congr 1
      · ac_rfl
      · congr 1 <;> ac_rfl
    · show (frK a a.length).2 * (frK b k).2 * (wk b k).p.toNat = (frK a a.length).2 * ((frK b k).2 * (wk b k).p.toNat)
      ac_rfl
/-- Loads are added. -/
theorem ld_adds {a b : List Wk} (ha : ∀ x ∈ a, WkOk x) (hb : ∀ x ∈ b, WkOk x) : (ldE (a ++ b)).1 * (ldE a).2 * (ldE b).2 = (ldE (a ++ b)).2 * ((ldE a).1 * (ldE b).2 + (ldE b).1 * (ldE a).2) := by
  have hab : ∀ x ∈ a ++ b, WkOk x := fun x hx => (List.mem_append.1 hx).elim (ha x) (hb x)
  have h1 := ld_fr hab (a.length + b.length)
  have h2 := ld_fr ha a.length
  have h3 := ld_fr hb b.length
  obtain ⟨f1, f2⟩ := fr_append2 a b b.length
  rw [f1, f2] at h1
  have p1 := fr_pos ha a.length
  have p2 := fr_pos hb b.length
  unfold ldE
  rw [List.length_append]
  generalize ldK (a ++ b) (a.length + b.length) = N at *
  generalize ldK a a.length = A at *
  generalize ldK b b.length = C at *
  generalize frK a a.length = F at *
  generalize frK b b.length = G at *
  obtain ⟨n, m⟩ := N
  obtain ⟨p, q⟩ := A
  obtain ⟨x, y⟩ := C
  obtain ⟨f, F2⟩ := F
  obtain ⟨g, G2⟩ := G
  simp only at *
  have hpos : 0 < F2 * G2 := Nat.mul_pos p1 p2
  apply Nat.eq_of_mul_eq_mul_left hpos
  calc F2 * G2 * (n * q * y) = (n * (F2 * G2)) * (q * y) := by ac_rfl
    _ = m * (f * G2 + g * F2) * (q * y) := by rw [h1]
    _ = m * ((q * f) * (G2 * y) + (y * g) * (F2 * q)) := by
      rw [Nat.mul_assoc]
      congr 1
      rw [Nat.add_mul]
      congr 1 <;> ac_rfl
    _ = m * ((p * F2) * (G2 * y) + (x * G2) * (F2 * q)) := by rw [h2, h3]
    _ = F2 * G2 * (m * (p * y + x * q)) := by
      rw [show F2 * G2 * (m * (p * y + x * q)) = m * (F2 * G2 * (p * y + x * q)) by ac_rfl]
      congr 1
      rw [Nat.mul_add]
      congr 1 <;> ac_rfl
theorem ld_top {l : List Wk} (h : ∀ x ∈ l, WkOk x) : ∀ k, 0 < (ldK l (k + 1)).1 := by
  intro k
  have hs := (ld_bound h k).1
  obtain ⟨⟨c0, _⟩, ⟨p0, _⟩, _⟩ := wk_ok h k
  have hp : 1 ≤ (wk l k).p.toNat := by omega
  have e := ld_mul1 (s := ldK l k) (x := wk l k)
  rcases Nat.eq_zero_or_pos (ldK l (k + 1)).1 with z | z
  · rw [show (ldS (ldK l k) (wk l k)).1 = 0 from z, Nat.zero_mul] at e
    have h1 : 0 < lcE (ldK l k) (wk l k) / (wk l k).p.toNat := by
      rcases Nat.eq_zero_or_pos (lcE (ldK l k) (wk l k) / (wk l k).p.toNat) with y | y
      · have := lc_dvd2 (s := ldK l k) hp
        rw [y, Nat.zero_mul] at this
        have := lc_pos hs hp; omega
      · exact y
    have h2 : 0 < (wk l k).c.toNat * (lcE (ldK l k) (wk l k) / (wk l k).p.toNat) := Nat.mul_pos (by omega) h1
    unfold tpE at e
    omega
  · exact z
end Go.Proofs.Ytolhbcgmlaodbaa
namespace Go.Proofs.Ytolhbcgmlaodbaa
open Go
/-- A job as the document has it. -/
structure Dj where
  w : Nat
  due : Int
  left : Int
/-- A job as the program has it. -/
structure Jb where
  w : Nat
  nth : Nat
  due : Int
  left : Int
  blk : Nat
def Jb.dj (e : Jb) : Dj := ⟨e.w, e.due, e.left⟩
def Jb.it (e : Jb) : Hp.It Nat := ⟨e.due, (e.w : Int) * 501 + e.nth, e.blk⟩
/-- What comes at a time. -/
def arrK (l : List Wk) (t : Nat) : Nat → List Dj
  | 0 => []
  | k + 1 => arrK l t k ++ if (t : Int) % (wk l k).p = 0 then [⟨k, t + (wk l k).d, (wk l k).c⟩] else []
def ltJ (a b : Dj) : Prop := a.due < b.due ∨ (a.due = b.due ∧ a.w < b.w)
instance (a b : Dj) : Decidable (ltJ a b) := inferInstanceAs (Decidable (_ ∨ _))
instance : Inhabited Dj := ⟨⟨0, 0, 0⟩⟩
def dj (D : List Dj) (k : Nat) : Dj := D[k]?.getD default
theorem dj_get {D : List Dj} {k : Nat} (h : k < D.length) : D[k]? = some (dj D k) := by simp [dj, h]
/-- The first one of those that are due first, of the first k. -/
def bestK (D : List Dj) : Nat → Option Nat
  | 0 => none
  | k + 1 => match bestK D k with
    | none => some k
    | some b => if ltJ (dj D k) (dj D b) then some k else some b
def best (D : List Dj) : Option Nat := bestK D D.length
theorem bestK_spec (D : List Dj) : ∀ k, k ≤ D.length → (k = 0 ∧ bestK D k = none) ∨ ∃ b, bestK D k = some b ∧ b < k ∧ ∀ j, j < k → ¬ ltJ (dj D j) (dj D b)
  | 0, _ => .inl ⟨rfl, rfl⟩
  | k + 1, h => by
    right
    rcases bestK_spec D k (by omega) with ⟨rfl, e⟩ | ⟨b, e, hb, hl⟩
    · refine ⟨0, by rw [bestK, e], by omega, fun j hj => ?_⟩
      obtain rfl : j = 0 := by omega
      unfold ltJ; omega
    · by_cases hlt : ltJ (dj D k) (dj D b)
      · refine ⟨k, by rw [bestK, e]; simp [hlt], by omega, fun j hj => ?_⟩
        by_cases ejk : j = k
        · subst ejk; unfold ltJ; omega
        · have := hl j (by omega)
          unfold ltJ at *; omega
      · refine ⟨b, by rw [bestK, e]; simp [hlt], by omega, fun j hj => ?_⟩
        by_cases ejk : j = k
        · subst ejk; exact hlt
        · exact hl j (by omega)
theorem best_spec (D : List Dj) : (D = [] ∧ best D = none) ∨ ∃ b, best D = some b ∧ b < D.length ∧ ∀ j, j < D.length → ¬ ltJ (dj D j) (dj D b) := by
  rcases bestK_spec D D.length (Nat.le_refl _) with ⟨h, e⟩ | h
  · exact .inl ⟨List.eq_nil_of_length_eq_zero h, e⟩
  · exact .inr h
/-- A tick: who has it, and what is left. -/
def tickJ (D : List Dj) : Int × List Dj := match best D with
  | none => (-1, D)
  | some b => ((dj D b).w, if (dj D b).left = 1 then D.eraseIdx b else D.set b ⟨(dj D b).w, (dj D b).due, (dj D b).left - 1⟩)
def keepJ (D : List Dj) (t : Nat) : List Dj := D.filter fun j => decide ((t : Int) < j.due)
def dueJ (D : List Dj) (t : Nat) : Bool := D.any fun j => decide (j.due ≤ (t : Int))
def missJ (D : List Dj) (t : Nat) (m : Int) : Int := if dueJ D t && decide (m < 0) then t else m
/-- Behind as many ticks: what is there, who had them, the first miss. -/
def runK (l : List Wk) : Nat → List Dj × List Int × Int
  | 0 => ([], [], -1)
  | t + 1 => ((tickJ (keepJ (runK l t).1 t ++ arrK l t l.length)).2, (runK l t).2.1 ++ [(tickJ (keepJ (runK l t).1 t ++ arrK l t l.length)).1], missJ (runK l t).1 t (runK l t).2.2)
def whoE (l : List Wk) (u : Nat) : List Int := (runK l u).2.1
def missE (l : List Wk) (u : Nat) : Int := missJ (runK l u).1 u (runK l u).2.2
theorem who_length (l : List Wk) : ∀ u, (whoE l u).length = u
  | 0 => rfl
  | u + 1 => by
    have := who_length l u
    unfold whoE at this ⊢
    rw [runK]; simp [this]
/-- Of jobs that came up to a time. -/
structure TI (l : List Wk) (t i : Nat) (E : List Jb) : Prop where
  j : ∀ e ∈ E, e.w < l.length ∧ e.due = e.nth * (wk l e.w).p + (wk l e.w).d ∧ (1 ≤ e.left ∧ e.left ≤ 100) ∧ ((e.nth : Int) * (wk l e.w).p < t ∨ ((e.nth : Int) * (wk l e.w).p = t ∧ e.w < i))
  len : E.length ≤ 6 * t + i
section
variable {l : List Wk} {t i : Nat} {E : List Jb}
theorem TI.sub {E' : List Jb} (h : TI l t i E) (hs : E'.Sublist E) : TI l t i E' := ⟨fun e he => h.j e (hs.subset he), Nat.le_trans hs.length_le h.len⟩
theorem TI.next (h : TI l t i E) (hi : i ≤ 6) : TI l (t + 1) 0 E := ⟨fun e he => by
  obtain ⟨a, b, c, d⟩ := h.j e he
  exact ⟨a, b, c, .inl (by omega)⟩, by have := h.len; omega⟩
theorem TI.nth (h : TI l t i E) (ho : ∀ x ∈ l, WkOk x) {e : Jb} (he : e ∈ E) : (e.nth : Int) ≤ t := by
  obtain ⟨_, _, _, d⟩ := h.j e he
  have hp := (wk_ok ho e.w).2.1.1
  have h1 : (e.nth : Int) * 1 ≤ (e.nth : Int) * (wk l e.w).p := Int.mul_le_mul_of_nonneg_left hp (by omega)
  omega
theorem TI.due (h : TI l t i E) (ho : ∀ x ∈ l, WkOk x) {e : Jb} (he : e ∈ E) : 0 ≤ e.due ∧ e.due ≤ t + 1000 := by
  obtain ⟨_, b, _, d⟩ := h.j e he
  have hd := (wk_ok ho e.w).2.2
  have h1 : 0 ≤ (e.nth : Int) * (wk l e.w).p := Int.mul_nonneg (by omega) (by have := (wk_ok ho e.w).2.1.1; omega)
  omega
/-- One is due when another is, of the same work: it is that. -/
theorem TI.same (h : TI l t i E) (ho : ∀ x ∈ l, WkOk x) {e f : Jb} (he : e ∈ E) (hf : f ∈ E) (hw : e.w = f.w) (hd : e.due = f.due) : e.nth = f.nth := by
  obtain ⟨_, b, _, _⟩ := h.j e he
  obtain ⟨_, b2, _, _⟩ := h.j f hf
  have hp := (wk_ok ho e.w).2.1.1
  rw [← hw, ← hd, b] at b2
  have h3 : (e.nth : Int) * (wk l e.w).p = (f.nth : Int) * (wk l e.w).p := by omega
  have := Int.eq_of_mul_eq_mul_right (show (wk l e.w).p ≠ 0 by omega) h3
  omega
theorem map_dj {b : Nat} : (E.map Jb.dj)[b]? = (E[b]?).map Jb.dj := List.getElem?_map
theorem dj_of {b : Nat} {e : Jb} (h : E[b]? = some e) : dj (E.map Jb.dj) b = e.dj := by unfold dj; rw [map_dj, h]; rfl
/-- What the heap has first is what the document takes. -/
theorem TI.least (h : TI l t i E) (ho : ∀ x ∈ l, WkOk x) (ht : t ≤ 500) (hnd : ((E.map Jb.it).map (·.id)).Nodup) {x : Hp.It Nat} (hx : x ∈ E.map Jb.it) (hl : ∀ y ∈ E.map Jb.it, ¬ Hp.lt y x) : ∃ b e, best (E.map Jb.dj) = some b ∧ E[b]? = some e ∧ x = e.it := by
  obtain ⟨e0, he0, rfl⟩ := List.mem_map.1 hx
  rcases best_spec (E.map Jb.dj) with ⟨hn, _⟩ | ⟨b, hb, hbl, hbm⟩
  · rw [List.map_eq_nil_iff] at hn; subst hn; cases he0
  rw [List.length_map] at hbl hbm
  obtain ⟨e1, he1⟩ : ∃ e, E[b]? = some e := ⟨_, List.getElem?_eq_getElem hbl⟩
  have hm1 : e1 ∈ E := List.mem_of_getElem? he1
  refine ⟨b, e1, hb, he1, ?_⟩
  obtain ⟨j, hj, rfl⟩ := List.getElem_of_mem he0
  have h1 := hbm j hj
  rw [dj_of (List.getElem?_eq_getElem hj), dj_of he1] at h1
  have h2 := hl e1.it (List.mem_map_of_mem hm1)
  have hn0 := h.nth ho he0
  have hn1 := h.nth ho hm1
  have h3 : e1.due = (E[j]).due ∧ e1.w = (E[j]).w := by
    unfold ltJ at h1
    unfold Hp.lt at h2
    simp only [Jb.dj, Jb.it] at h1 h2
    have hle : e1.due = (E[j]).due := by omega
    refine ⟨hle, ?_⟩
    have h4 : ¬ (E[j]).w < e1.w := fun g => h1 (.inr ⟨hle.symm, g⟩)
    have h5 : ¬ ((e1.w : Int) * 501 + e1.nth < (E[j].w : Int) * 501 + E[j].nth) := fun g => h2 (.inr ⟨hle, g⟩)
    omega
  have h6 := h.same ho hm1 he0 h3.2 h3.1
  have hid : (e1.it).id = (E[j].it).id := by simp only [Jb.it]; rw [h3.2, h6]
  have hbj : b = j := by
    rw [List.map_map] at hnd
    have hb1 : b < (E.map ((·.id) ∘ Jb.it)).length := by rw [List.length_map]; exact hbl
    have hj1 : j < (E.map ((·.id) ∘ Jb.it)).length := by rw [List.length_map]; exact hj
    refine (List.getElem_inj (h₀ := hb1) (h₁ := hj1) hnd).1 ?_
    rw [List.getElem_map, List.getElem_map]
    have : E[b] = e1 := by rw [List.getElem?_eq_getElem hbl] at he1; exact Option.some.inj he1
    show (E[b].it).id = (E[j].it).id
    rw [this]; exact hid
  subst hbj
  rw [List.getElem?_eq_getElem hj] at he1
  rw [Option.some.inj he1]
end
end Go.Proofs.Ytolhbcgmlaodbaa
namespace Go.Proofs.Ytolhbcgmlaodbaa
open Go
/-- What is left of those that are q. -/
def sumQ (q : Dj → Bool) : List Dj → Int
  | [] => 0
  | j :: D => (if q j then j.left else 0) + sumQ q D
section
variable {q : Dj → Bool}
theorem sumQ_append : ∀ D D' : List Dj, sumQ q (D ++ D') = sumQ q D + sumQ q D'
  | [], D' => by simp [sumQ]
  | j :: D, D' => by rw [List.cons_append, sumQ, sumQ, sumQ_append D D', Int.add_assoc]
theorem sumQ_erase : ∀ (D : List Dj) (b : Nat) (j : Dj), D[b]? = some j → sumQ q D = sumQ q (D.eraseIdx b) + if q j then j.left else 0
  | [], b, j, h => by simp at h
  | x :: D, 0, j, h => by
    simp at h; subst h
    rw [List.eraseIdx_cons_zero, sumQ]; omega
  | x :: D, b + 1, j, h => by
    rw [List.eraseIdx_cons_succ, sumQ, sumQ, sumQ_erase D b j (by simpa using h), Int.add_assoc]
theorem sumQ_set : ∀ (D : List Dj) (b : Nat) (j j' : Dj), D[b]? = some j → q j' = q j → sumQ q (D.set b j') = sumQ q D - if q j then j.left - j'.left else 0
  | [], b, j, j', h, _ => by simp at h
  | x :: D, 0, j, j', h, hq => by
    simp at h; subst h
    rw [List.set_cons_zero, sumQ, sumQ, hq]
    split <;> omega
  | x :: D, b + 1, j, j', h, hq => by
    rw [List.set_cons_succ, sumQ, sumQ, sumQ_set D b j j' (by simpa using h) hq]; omega
theorem sumQ_nonneg : ∀ D : List Dj, (∀ j ∈ D, 1 ≤ j.left) → 0 ≤ sumQ q D
  | [], _ => Int.le_refl _
  | x :: D, h => by
    have h1 := sumQ_nonneg D (fun j hj => h j (List.mem_cons_of_mem _ hj))
    have h2 := h x List.mem_cons_self
    rw [sumQ]; split <;> omega
theorem sumQ_pos : ∀ D : List Dj, (∀ j ∈ D, 1 ≤ j.left) → 0 < sumQ q D → ∃ j ∈ D, q j = true
  | [], _, h => by simp [sumQ] at h
  | x :: D, h, hp => by
    by_cases hx : q x = true
    · exact ⟨x, List.mem_cons_self, hx⟩
    · rw [sumQ, if_neg hx, Int.zero_add] at hp
      obtain ⟨j, hj, e⟩ := sumQ_pos D (fun j hj => h j (List.mem_cons_of_mem _ hj)) hp
      exact ⟨j, List.mem_cons_of_mem _ hj, e⟩
theorem sumQ_has : ∀ D : List Dj, (∀ j ∈ D, 1 ≤ j.left) → (∃ j ∈ D, q j = true) → 1 ≤ sumQ q D
  | [], _, ⟨j, hj, _⟩ => by cases hj
  | x :: D, h, ⟨j, hj, e⟩ => by
    have h1 := sumQ_nonneg (q := q) D (fun j hj => h j (List.mem_cons_of_mem _ hj))
    have h2 := h x List.mem_cons_self
    rw [sumQ]
    rcases List.mem_cons.1 hj with rfl | hj
    · rw [if_pos e]; omega
    · have := sumQ_has D (fun j hj => h j (List.mem_cons_of_mem _ hj)) ⟨j, hj, e⟩
      split <;> omega
theorem sumQ_none : ∀ D : List Dj, (∀ j ∈ D, q j = false) → sumQ q D = 0
  | [], _ => rfl
  | x :: D, h => by
    rw [sumQ, h x List.mem_cons_self, sumQ_none D (fun j hj => h j (List.mem_cons_of_mem _ hj))]; rfl
end
/-- A question on a job's work and time alone. -/
def OnWD (q : Dj → Bool) : Prop := ∀ w d l l', q ⟨w, d, l⟩ = q ⟨w, d, l'⟩
/-- A tick takes one off what is done. -/
theorem tick_cases (D : List Dj) : (D = [] ∧ tickJ D = (-1, [])) ∨ ∃ j ∈ D, (∀ x ∈ D, j.due ≤ x.due) ∧ (tickJ D).1 = j.w ∧ (∀ q, OnWD q → sumQ q (tickJ D).2 = sumQ q D - if q j then 1 else 0) ∧ ((∀ x ∈ D, 1 ≤ x.left) → ∀ x ∈ (tickJ D).2, 1 ≤ x.left) := by
  rcases best_spec D with ⟨rfl, _⟩ | ⟨b, hb, hbl, hbm⟩
  · exact .inl ⟨rfl, rfl⟩
  · right
    have hg := dj_get hbl
    have ht : tickJ D = (((dj D b).w : Int), if (dj D b).left = 1 then D.eraseIdx b else D.set b ⟨(dj D b).w, (dj D b).due, (dj D b).left - 1⟩) := by unfold tickJ; rw [hb]
    refine ⟨dj D b, List.mem_of_getElem? hg, fun x hx => ?_, by rw [ht], fun q hq => ?_, fun hl x hx => ?_⟩
    · obtain ⟨k, hk⟩ := List.mem_iff_getElem?.1 hx
      have hkl := (List.getElem?_eq_some_iff.1 hk).1
      have := hbm k hkl
      have e : dj D k = x := by unfold dj; rw [hk]; rfl
      rw [e] at this
      unfold ltJ at this; omega
    · rw [ht]
      by_cases h1 : (dj D b).left = 1
      · simp only [h1, if_true]
        have := sumQ_erase (q := q) D b _ hg
        rw [h1] at this
        omega
      · simp only [h1, if_false]
        have hs := sumQ_set (q := q) D b (dj D b) ⟨(dj D b).w, (dj D b).due, (dj D b).left - 1⟩ hg (hq (dj D b).w (dj D b).due _ _)
        rw [hs]
        show _ - (if q (dj D b) = true then (dj D b).left - ((dj D b).left - 1) else 0) = _
        split <;> omega
    · rw [ht] at hx
      have hbp := hl _ (List.mem_of_getElem? hg)
      by_cases h1 : (dj D b).left = 1
      · simp only [h1, if_true] at hx
        exact hl x ((List.eraseIdx_sublist D b).subset hx)
      · simp only [h1, if_false] at hx
        rcases List.mem_or_eq_of_mem_set hx with hx | rfl
        · exact hl x hx
        · show 1 ≤ (dj D b).left - 1; omega
/-- What comes at a time, of one work. -/
def oneK (l : List Wk) (q : Dj → Bool) (t k : Nat) : Int := if (t : Int) % (wk l k).p = 0 ∧ q ⟨k, t + (wk l k).d, (wk l k).c⟩ = true then (wk l k).c else 0
def oneS (l : List Wk) (q : Dj → Bool) (t : Nat) : Nat → Int
  | 0 => 0
  | k + 1 => oneS l q t k + oneK l q t k
theorem sum_arr (l : List Wk) (q : Dj → Bool) (t : Nat) : ∀ k, sumQ q (arrK l t k) = oneS l q t k
  | 0 => rfl
  | k + 1 => by
    rw [arrK, sumQ_append, sum_arr l q t k, oneS, oneK]
    congr 1
    by_cases h : (t : Int) % (wk l k).p = 0
    · rw [if_pos h]
      simp only [sumQ, h, true_and]
      split <;> simp
    · rw [if_neg h, if_neg (fun g => h g.1)]; rfl
theorem arr_pos {l : List Wk} (ho : ∀ x ∈ l, WkOk x) (t : Nat) : ∀ k, ∀ j ∈ arrK l t k, 1 ≤ j.left
  | 0, j, h => by cases h
  | k + 1, j, h => by
    rw [arrK] at h
    rcases List.mem_append.1 h with h | h
    · exact arr_pos ho t k j h
    · split at h
      · rw [List.mem_singleton.1 h]; exact (wk_ok ho k).1.1
      · cases h
theorem run_pos {l : List Wk} (ho : ∀ x ∈ l, WkOk x) : ∀ t, ∀ j ∈ (runK l t).1, 1 ≤ j.left
  | 0, j, h => by cases h
  | t + 1, j, h => by
    rw [runK] at h
    have hall : ∀ x ∈ keepJ (runK l t).1 t ++ arrK l t l.length, 1 ≤ x.left := fun x hx => by
      rcases List.mem_append.1 hx with hx | hx
      · exact run_pos ho t x (List.mem_filter.1 hx).1
      · exact arr_pos ho t _ x hx
    rcases tick_cases (keepJ (runK l t).1 t ++ arrK l t l.length) with ⟨_, e⟩ | ⟨_, _, _, _, _, hp⟩
    · have h2 : j ∈ (tickJ (keepJ (runK l t).1 t ++ arrK l t l.length)).2 := h
      rw [e] at h2; cases h2
    · exact hp hall j h
theorem keep_all {D : List Dj} {t : Nat} (h : dueJ D t = false) : keepJ D t = D := by
  unfold keepJ
  rw [List.filter_eq_self]
  intro j hj
  unfold dueJ at h
  rw [List.any_eq_false] at h
  have := h j hj
  simp at this ⊢
  exact this
/-- Nothing was missed ahead of a time. -/
def NoMiss (l : List Wk) (t : Nat) : Prop := ∀ s, s < t → dueJ (runK l s).1 s = false
theorem miss_cases (l : List Wk) : ∀ t : Nat, ((runK l t).2.2 = -1 ∧ NoMiss l t) ∨ ∃ s : Nat, s < t ∧ (runK l t).2.2 = s ∧ dueJ (runK l s).1 s = true ∧ NoMiss l s
  | 0 => .inl ⟨rfl, fun s h => absurd h (Nat.not_lt_zero _)⟩
  | t + 1 => by
    have e : (runK l (t + 1)).2.2 = missJ (runK l t).1 t (runK l t).2.2 := rfl
    rcases miss_cases l t with ⟨h1, h2⟩ | ⟨s, h1, h2, h3, h4⟩
    · cases hd : dueJ (runK l t).1 t
      · refine .inl ⟨by rw [e, missJ, hd]; simpa using h1, fun s hs => ?_⟩
        rcases Nat.lt_or_eq_of_le (Nat.le_of_lt_succ hs) with g | rfl
        · exact h2 s g
        · exact hd
      · exact .inr ⟨t, Nat.lt_succ_self t, by rw [e, missJ, hd, h1]; rfl, hd, h2⟩
    · refine .inr ⟨s, by omega, ?_, h3, h4⟩
      rw [e, missJ, h2]
      have : decide ((s : Int) < 0) = false := by simp
      rw [this, Bool.and_false]; rfl
theorem missE_cases (l : List Wk) (u : Nat) : (missE l u = -1 ∧ NoMiss l (u + 1)) ∨ ∃ s : Nat, s ≤ u ∧ missE l u = s ∧ dueJ (runK l s).1 s = true ∧ NoMiss l s := by
  rcases miss_cases l (u + 1) with h | ⟨s, h1, h2⟩
  · exact .inl h
  · exact .inr ⟨s, by omega, h2⟩
/-- What came from t0 on, ahead of t. -/
def cameS (l : List Wk) (q : Dj → Bool) (t0 : Nat) : Nat → Int
  | 0 => 0
  | k + 1 => cameS l q t0 k + oneS l q (t0 + k) l.length
def dueQ (m : Nat) : Dj → Bool := fun j => decide (j.due ≤ (m : Int))
theorem dueQ_wd (m : Nat) : OnWD (dueQ m) := fun _ _ _ _ => rfl
theorem run_one {l : List Wk} {t : Nat} (h : dueJ (runK l t).1 t = false) : (runK l (t + 1)).1 = (tickJ ((runK l t).1 ++ arrK l t l.length)).2 ∧ (runK l (t + 1)).2.1 = (runK l t).2.1 ++ [(tickJ ((runK l t).1 ++ arrK l t l.length)).1] := by
  rw [runK, keep_all h]; exact ⟨rfl, rfl⟩
/-- What is left that is due up to m: none, or it came from some time on at which all of it was done, and a tick went to each time since. -/
theorem busy {l : List Wk} (ho : ∀ x ∈ l, WkOk x) (m : Nat) : ∀ t, NoMiss l t → sumQ (dueQ m) (runK l t).1 = 0 ∨ ∃ t0, t0 < t ∧ sumQ (dueQ m) (runK l t).1 + ((t - t0 : Nat) : Int) ≤ cameS l (dueQ m) t0 (t - t0)
  | 0, _ => .inl rfl
  | t + 1, hn => by
    have ih := busy ho m t (fun s hs => hn s (by omega))
    obtain ⟨hr, _⟩ := run_one (hn t (Nat.lt_succ_self t))
    have hpos := run_pos ho t
    have hall : ∀ x ∈ (runK l t).1 ++ arrK l t l.length, 1 ≤ x.left := fun x hx => by
      rcases List.mem_append.1 hx with hx | hx
      · exact hpos x hx
      · exact arr_pos ho t _ x hx
    have hsum : sumQ (dueQ m) ((runK l t).1 ++ arrK l t l.length) = sumQ (dueQ m) (runK l t).1 + oneS l (dueQ m) t l.length := by rw [sumQ_append, sum_arr]
    rw [hr]
    have hnn := sumQ_nonneg (q := dueQ m) _ hall
    rcases tick_cases ((runK l t).1 ++ arrK l t l.length) with ⟨_, e⟩ | ⟨j, hj, hmin, _, hq, _⟩
    · rw [e]; exact .inl rfl
    · rw [hq _ (dueQ_wd m)]
      by_cases h0 : 0 < sumQ (dueQ m) ((runK l t).1 ++ arrK l t l.length)
      · obtain ⟨x, hx, hd⟩ := sumQ_pos _ hall h0
        have hjd : dueQ m j = true := by
          have := hmin x hx
          simp only [dueQ, decide_eq_true_iff] at hd ⊢
          omega
        rw [hjd, if_pos rfl]
        right
        rcases ih with h1 | ⟨t0, ht0, h1⟩
        · refine ⟨t, Nat.lt_succ_self t, ?_⟩
          rw [show t + 1 - t = 1 by omega, cameS, cameS, Nat.add_zero]
          omega
        · refine ⟨t0, by omega, ?_⟩
          rw [show t + 1 - t0 = (t - t0) + 1 by omega, cameS, show t0 + (t - t0) = t by omega]
          omega
      · left
        have hz : sumQ (dueQ m) ((runK l t).1 ++ arrK l t l.length) = 0 := by omega
        have hjd : dueQ m j = false := by
          cases hb : dueQ m j
          · rfl
          · have := sumQ_has (q := dueQ m) _ hall ⟨j, hj, hb⟩
            omega
        rw [hjd, hz]; rfl
end Go.Proofs.Ytolhbcgmlaodbaa
