/-
  Layer 36: who ran when, of events: the product's way (event by event) and the document's (the last dispatch, and what stands behind it). No program in sight.
-/
import Derived.Test.YtphlbomcnholhaaTab
import Derived.Test.YtphlbomcnholhaaFixq
namespace Go.Proofs.Ytphlbomcnholhaa
structure Ev where
  t : Int
  k : Int
  a : Int
  lk : Int
  n : Int
instance : Inhabited Ev := ⟨⟨0, 0, 0, 0, 0⟩⟩
def evV (e : Ev) : List Value := [.int .u64 e.t, .int .i64 e.k, .int .i64 e.a, .int .i64 e.lk, .int .i64 e.n]
theorem evV_length (e : Ev) : (evV e).length = 5 := rfl
def ev (l : List Ev) (i : Nat) : Ev := l[i]?.getD default
theorem ev_at {w : World} {A : Option Addr} {l : List Ev} (h : Cells w A (tab evV l)) {k : Nat} (hk : k < l.length) :
    ∃ b off : Nat, A = some ⟨b, off, none⟩ ∧ w.cell? ⟨b, off + k * 5, none⟩ = some (.int .u64 (ev l k).t) ∧ w.cell? ⟨b, off + k * 5 + 1, none⟩ = some (.int .i64 (ev l k).k) ∧ w.cell? ⟨b, off + k * 5 + 2, none⟩ = some (.int .i64 (ev l k).a) ∧
      w.cell? ⟨b, off + k * 5 + 3, none⟩ = some (.int .i64 (ev l k).lk) ∧ w.cell? ⟨b, off + k * 5 + 4, none⟩ = some (.int .i64 (ev l k).n) := by
  have e : l[k]? = some (ev l k) := by simp [ev, hk]
  obtain ⟨b, off, rfl, hc⟩ := h.tab_at evV_length e (by omega)
  exact ⟨b, off, rfl, by simpa using hc 0 _ rfl, hc 1 _ rfl, hc 2 _ rfl, hc 3 _ rfl, hc 4 _ rfl⟩
/-- Does an event of one who runs end that? -/
def endsF (e : Ev) (time : Int) : Bool := if e.k = 3 then decide (e.t ≤ time) else decide (e.t < time) && [10, 6, 9, 11].contains e.k
def dispF (core time : Int) (e : Ev) : Bool := decide (e.k = 2) && decide (e.n = core) && decide (e.t ≤ time)
def stepF (core time : Int) (s : Int × Bool) (e : Ev) : Int × Bool :=
  if dispF core time e = true then (e.a, true) else if (s.2 && decide (e.a = s.1) && endsF e time) = true then (s.1, false) else s
def stF (l : List Ev) (core time : Int) : Nat → Int × Bool
  | 0 => (-1, false)
  | k + 1 => stepF core time (stF l core time k) (ev l k)
def outF (s : Int × Bool) : Int × Bool := if s.2 = false ∨ s.1 < 0 ∨ 64 ≤ s.1 then (-1, false) else (s.1, true)
def ranF (l : List Ev) (core time : Int) : Int × Bool := outF (stF l core time l.length)
/-- The document's: the last dispatch. -/
def atF (l : List Ev) (core time : Int) : Nat → Int
  | 0 => -1
  | k + 1 => if dispF core time (ev l k) = true then (k : Int) else atF l core time k
def goneE (who time : Int) (e : Ev) : Bool := decide (e.a = who) && endsF e time
/-- Of those from i up to k. -/
def goneK (l : List Ev) (who time : Int) (i : Nat) : Nat → Bool
  | 0 => false
  | k + 1 => goneK l who time i k || (decide (i ≤ k) && goneE who time (ev l k))
def goneF (l : List Ev) (i : Nat) (time : Int) : Bool := goneK l (ev l i).a time (i + 1) l.length
theorem at_lt (l : List Ev) (core time : Int) : ∀ k, atF l core time k = -1 ∨ ∃ i : Nat, atF l core time k = i ∧ i < k := by
  intro k
  induction k with
  | zero => exact .inl rfl
  | succ k ih =>
    rw [atF]
    split
    · exact .inr ⟨k, rfl, by omega⟩
    · rcases ih with h | ⟨i, h, hi⟩
      · exact .inl h
      · exact .inr ⟨i, h, by omega⟩
theorem goneK_self (l : List Ev) (who time : Int) (i : Nat) : ∀ k, k ≤ i → goneK l who time i k = false := by
  intro k
  induction k with
  | zero => intro _; rfl
  | succ k ih => intro h; rw [goneK, ih (by omega), decide_eq_false (by omega)]; rfl
theorem st_at (l : List Ev) (core time : Int) : ∀ k, (atF l core time k = -1 → stF l core time k = (-1, false)) ∧
    ∀ i : Nat, atF l core time k = i → stF l core time k = ((ev l i).a, !goneK l (ev l i).a time (i + 1) k) := by
  intro k
  induction k with
  | zero => exact ⟨fun _ => rfl, fun i h => by simp only [atF] at h; omega⟩
  | succ k ih =>
    rw [atF, stF, stepF]
    by_cases hd : dispF core time (ev l k) = true
    · rw [if_pos hd, if_pos hd]
      refine ⟨fun h => by omega, fun i h => ?_⟩
      obtain rfl : k = i := by omega
      rw [goneK_self l _ time (k + 1) (k + 1) (Nat.le_refl _)]
      rfl
    · rw [if_neg hd, if_neg hd]
      rcases at_lt l core time k with h | ⟨j, h, hj⟩
      · refine ⟨fun _ => ?_, fun i hi => by omega⟩
        rw [ih.1 h]
        rfl
      · refine ⟨fun h' => by omega, fun i hi => ?_⟩
        obtain rfl : j = i := by omega
        rw [ih.2 j h]
        simp only [goneK, goneE, decide_eq_true (show j + 1 ≤ k by omega), Bool.true_and]
        cases goneK l (ev l j).a time (j + 1) k <;> cases h1 : decide ((ev l k).a = (ev l j).a) <;> cases h2 : endsF (ev l k) time <;> simp [h1, h2]
theorem ran_at (l : List Ev) (core time : Int) :
    ranF l core time = match atF l core time l.length with
      | .ofNat i => if (ev l i).a < 0 ∨ 63 < (ev l i).a ∨ goneF l i time = true then (-1, false) else ((ev l i).a, true)
      | .negSucc _ => (-1, false) := by
  have h := st_at l core time l.length
  unfold ranF outF goneF
  rcases at_lt l core time l.length with e | ⟨i, e, hi⟩
  · rw [h.1 e, e]; rfl
  · rw [h.2 i e, e]
    simp only [Int.ofNat_eq_natCast]
    show _ = if _ then _ else _
    by_cases c : (ev l i).a < 0 ∨ 63 < (ev l i).a ∨ goneK l (ev l i).a time (i + 1) l.length = true
    · rw [if_pos c, if_pos (by rcases c with c | c | c; exact .inr (.inl c); exact .inr (.inr (show 64 ≤ (ev l i).a by omega)); exact .inl (by simpa using c))]
    · rw [if_neg c, if_neg (by
        intro c'
        apply c
        rcases c' with c' | c' | c'
        · exact .inr (.inr (by simpa using c'))
        · exact .inl c'
        · exact .inr (.inl (show 63 < (ev l i).a by have : 64 ≤ (ev l i).a := c'; omega)))]
theorem ran_ok (l : List Ev) (core time : Int) : ((ranF l core time).2 = true ∧ 0 ≤ (ranF l core time).1 ∧ (ranF l core time).1 < 64) ∨ ranF l core time = (-1, false) := by
  unfold ranF outF
  by_cases c : (stF l core time l.length).2 = false ∨ (stF l core time l.length).1 < 0 ∨ 64 ≤ (stF l core time l.length).1
  · rw [if_pos c]; exact .inr rfl
  · rw [if_neg c]
    simp only [not_or, Int.not_lt, Int.not_le] at c
    exact .inl ⟨rfl, c.2.1, c.2.2⟩
end Go.Proofs.Ytphlbomcnholhaa
