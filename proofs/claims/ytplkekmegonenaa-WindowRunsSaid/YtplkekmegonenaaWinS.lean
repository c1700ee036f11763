/-
  Layer 35: the row of those that may be the greatest (or the least): what comes to it, what is dropped of it, and what is first in it. No program in sight.
-/
import Derived.Test.YtplkekmegonenaaOwn
namespace Go.Proofs.Ytplkekmegonenaa
open Go.RowKit
abbrev It := Int × Int
def beat (sg v : Int) (y : It) : Bool := decide (sg * y.1 ≤ sg * v)
/-- Those at the end that are beaten go. -/
def cutB (sg v : Int) : List It → List It
  | b => (b.reverse.dropWhile (beat sg v)).reverse
def pushB (sg : Int) (b : List It) (x : It) : List It := cutB sg x.1 b ++ [x]
def dropB (b : List It) (a : Int) : List It := b.dropWhile fun y => decide (y.2 < a)
theorem cut_nil (sg v : Int) : cutB sg v [] = [] := rfl
theorem cut_beat {sg v : Int} {b : List It} {y : It} (h : beat sg v y = true) : cutB sg v (b ++ [y]) = cutB sg v b := by simp [cutB, h]
theorem cut_stay {sg v : Int} {b : List It} {y : It} (h : beat sg v y = false) : cutB sg v (b ++ [y]) = b ++ [y] := by simp [cutB, h]
theorem cut_split (sg v : Int) (b : List It) : ∃ t, b = cutB sg v b ++ t ∧ (∀ y ∈ t, beat sg v y = true) ∧ (∀ c y, cutB sg v b = c ++ [y] → beat sg v y = false) := by
  suffices ∀ n, ∀ b : List It, b.length = n → ∃ t, b = cutB sg v b ++ t ∧ (∀ y ∈ t, beat sg v y = true) ∧ (∀ c y, cutB sg v b = c ++ [y] → beat sg v y = false) from this _ b rfl
  intro n
  induction n with
  | zero =>
    intro b hl
    obtain rfl := List.eq_nil_of_length_eq_zero hl
    exact ⟨[], rfl, fun y h => (by cases h), fun c y h => by simp [cut_nil] at h⟩
  | succ n ih =>
    intro b' hl
    obtain ⟨b, y, rfl⟩ : ∃ b y, b' = b ++ [y] := by
      rcases List.eq_nil_or_concat b' with he | ⟨b, y, he⟩
      · subst he; simp at hl
      · exact ⟨b, y, by rw [he, List.concat_eq_append]⟩
    have ih := ih b (by simpa using hl)
    cases hb : beat sg v y with
    | true =>
      obtain ⟨t, h1, h2, h3⟩ := ih
      refine ⟨t ++ [y], ?_, ?_, ?_⟩
      · rw [cut_beat hb, ← List.append_assoc, ← h1]
      · intro z hz
        rcases List.mem_append.1 hz with hz | hz
        · exact h2 z hz
        · simp at hz; subst hz; exact hb
      · rw [cut_beat hb]; exact h3
    | false =>
      refine ⟨[], by rw [cut_stay hb]; simp, fun z hz => (by cases hz), fun c z hz => ?_⟩
      rw [cut_stay hb] at hz
      have := List.append_inj' hz rfl
      simp at this
      rw [← this.2]; exact hb
/-- What it holds, of the first s numbers those from lo on. -/
structure InvB (sg : Int) (L : List Int) (s lo : Nat) (b : List It) : Prop where
  each : ∀ y ∈ b, (lo : Int) ≤ y.2 ∧ y.2 < s ∧ y.1 = atL L y.2.toNat
  pair : b.Pairwise fun y z => y.2 < z.2 ∧ sg * z.1 < sg * y.1
  best : ∀ i : Nat, lo ≤ i → i < s → ∃ y ∈ b, (i : Int) ≤ y.2 ∧ sg * atL L i ≤ sg * y.1
theorem InvB.nil (sg : Int) (L : List Int) : InvB sg L 0 0 [] := ⟨fun y h => (by cases h), List.Pairwise.nil, fun i _ h => by omega⟩
theorem InvB.push {sg : Int} {L : List Int} {s lo : Nat} {b : List It} (h : InvB sg L s lo b) (hlo : lo ≤ s) : InvB sg L (s + 1) lo (pushB sg b (atL L s, (s : Int))) := by
  obtain ⟨t, h1, h2, h3⟩ := cut_split sg (atL L s) b
  have hmem : ∀ y ∈ cutB sg (atL L s) b, y ∈ b := fun y hy => by rw [h1]; exact List.mem_append_left _ hy
  have hp : (cutB sg (atL L s) b).Pairwise fun y z => y.2 < z.2 ∧ sg * z.1 < sg * y.1 := by
    have := h.pair
    rw [h1] at this
    exact (List.pairwise_append.1 this).1
  have hgt : ∀ y ∈ cutB sg (atL L s) b, sg * atL L s < sg * y.1 := by
    intro y hy
    rcases List.eq_nil_or_concat (cutB sg (atL L s) b) with he | ⟨c, z, he⟩
    · rw [he] at hy; cases hy
    · rw [List.concat_eq_append] at he
      have hz := h3 c z he
      have hz' : ¬ sg * z.1 ≤ sg * atL L s := by simpa [beat] using hz
      rw [he] at hy hp
      rcases List.mem_append.1 hy with hy | hy
      · have := (List.pairwise_append.1 hp).2.2 y hy z (by simp)
        omega
      · simp at hy; subst hy; omega
  unfold pushB
  refine ⟨fun y hy => ?_, ?_, fun i hi hs => ?_⟩
  · rcases List.mem_append.1 hy with hy | hy
    · have := h.each y (hmem y hy)
      exact ⟨this.1, by omega, this.2.2⟩
    · simp at hy
      subst hy
      exact ⟨by simp only; omega, by simp only; omega, by simp⟩
  · rw [List.pairwise_append]
    refine ⟨hp, by simp, fun y hy z hz => ?_⟩
    simp at hz
    subst hz
    exact ⟨(h.each y (hmem y hy)).2.1, hgt y hy⟩
  · by_cases e : i = s
    · subst e
      exact ⟨(atL L i, (i : Int)), by simp, by simp, by simp⟩
    · obtain ⟨y, hy, h4, h5⟩ := h.best i hi (by omega)
      rw [h1] at hy
      rcases List.mem_append.1 hy with hy | hy
      · exact ⟨y, List.mem_append_left _ hy, h4, h5⟩
      · have hb := h2 y hy
        have hb' : sg * y.1 ≤ sg * atL L s := by simpa [beat] using hb
        exact ⟨(atL L s, (s : Int)), by simp, by simp only; omega, by simp only; omega⟩
theorem mem_takeW {α : Type} {p : α → Bool} {y : α} : ∀ {l : List α}, y ∈ l.takeWhile p → p y = true
  | [], h => by simp at h
  | x :: l, h => by
    rw [List.takeWhile_cons] at h
    split at h
    · rcases List.mem_cons.1 h with rfl | h
      · assumption
      · exact mem_takeW h
    · simp at h
theorem InvB.drop {sg : Int} {L : List Int} {s lo lo' : Nat} {b : List It} (h : InvB sg L s lo b) (hlo : lo ≤ lo') : InvB sg L s lo' (dropB b lo') := by
  have hsub : (dropB b lo').Sublist b := List.dropWhile_sublist _
  have hkeep : ∀ y ∈ b, (lo' : Int) ≤ y.2 → y ∈ dropB b lo' := by
    intro y hy hge
    have hsp := List.takeWhile_append_dropWhile (p := fun y : It => decide (y.2 < (lo' : Int))) (l := b)
    rw [← hsp] at hy
    rcases List.mem_append.1 hy with hy | hy
    · have := mem_takeW hy
      simp at this
      omega
    · exact hy
  have hall : ∀ y ∈ dropB b lo', (lo' : Int) ≤ y.2 := by
    have hp : (dropB b lo').Pairwise fun y z => y.2 < z.2 ∧ sg * z.1 < sg * y.1 := h.pair.sublist hsub
    cases hd : dropB b lo' with
    | nil => intro y hy; cases hy
    | cons z t =>
      have hz : (lo' : Int) ≤ z.2 := by
        have h0 := List.head?_dropWhile_not (fun y : It => decide (y.2 < (lo' : Int))) b
        have : (b.dropWhile fun y : It => decide (y.2 < (lo' : Int))).head? = some z := by
          show (dropB b lo').head? = some z
          rw [hd]; rfl
        rw [this] at h0
        simp at h0
        exact h0
      intro y hy
      rw [hd] at hp
      rcases List.mem_cons.1 hy with rfl | hy
      · exact hz
      · have := (List.pairwise_cons.1 hp).1 y hy
        omega
  refine ⟨fun y hy => ⟨hall y hy, (h.each y (hsub.subset hy)).2⟩, h.pair.sublist hsub, fun i hi hs => ?_⟩
  obtain ⟨y, hy, h4, h5⟩ := h.best i (by omega) hs
  exact ⟨y, hkeep y hy (by omega), h4, h5⟩
/-- The first one is the best of all. -/
theorem InvB.top {sg : Int} {L : List Int} {s lo : Nat} {b : List It} (h : InvB sg L s lo b) (hlo : lo < s) : ∃ y t, b = y :: t ∧ (∃ i, lo ≤ i ∧ i < s ∧ y.1 = atL L i) ∧ ∀ i, lo ≤ i → i < s → sg * atL L i ≤ sg * y.1 := by
  cases hb : b with
  | nil =>
    obtain ⟨y, hy, _⟩ := h.best lo (Nat.le_refl _) hlo
    rw [hb] at hy; cases hy
  | cons y t =>
    have he := h.each y (by rw [hb]; simp)
    refine ⟨y, t, rfl, ⟨y.2.toNat, by omega, by omega, he.2.2⟩, fun i h1 h2 => ?_⟩
    obtain ⟨z, hz, _, h5⟩ := h.best i h1 h2
    rw [hb] at hz
    have hp := h.pair
    rw [hb] at hp
    rcases List.mem_cons.1 hz with rfl | hz
    · exact h5
    · have := (List.pairwise_cons.1 hp).1 z hz
      omega
theorem cut_length (sg v : Int) (b : List It) : (cutB sg v b).length ≤ b.length := by
  obtain ⟨t, h1, _⟩ := cut_split sg v b
  have := congrArg List.length h1
  simp at this
  omega
theorem push_length (sg : Int) (b : List It) (x : It) : (pushB sg b x).length ≤ b.length + 1 := by
  have := cut_length sg x.1 b
  simp [pushB]; omega
theorem drop_length (b : List It) (a : Int) : (dropB b a).length ≤ b.length := (List.dropWhile_sublist _).length_le
end Go.Proofs.Ytplkekmegonenaa
