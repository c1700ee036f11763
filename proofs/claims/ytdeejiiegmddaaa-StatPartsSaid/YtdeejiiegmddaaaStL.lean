/-
  Layer 25: the tasks' rows behind the first events: plain. No condition.
-/
import Derived.Test.YtdeejiiegmddaaaStJ
import Derived.Test.YtdeejiiegmddaaaStK
namespace Go.Proofs.Ytdeejiiegmddaaa
open Go Go.RowKit
def insI : List Int → Int → List Int
  | [], x => [x]
  | a :: l, x => if a < x then a :: insI l x else if a = x then a :: l else x :: a :: l
theorem insI_mem (x : Int) : ∀ (l : List Int) (y : Int), y ∈ insI l x ↔ y = x ∨ y ∈ l
  | [], y => by simp [insI]
  | a :: l, y => by
    unfold insI
    have ih := insI_mem x l y
    split
    · simp only [List.mem_cons, ih]
      constructor <;> (rintro (h | h | h) <;> simp [h])
    · split
      · rename_i h
        subst h
        simp
      · simp
theorem insI_sorted (x : Int) : ∀ (l : List Int), l.Pairwise (· < ·) → (insI l x).Pairwise (· < ·)
  | [], _ => by simp [insI]
  | a :: l, h => by
    obtain ⟨h1, h2⟩ := List.pairwise_cons.1 h
    unfold insI
    split
    · rename_i ha
      refine List.pairwise_cons.2 ⟨fun y hy => ?_, insI_sorted x l h2⟩
      rcases (insI_mem x l y).1 hy with rfl | hy
      · exact ha
      · exact h1 y hy
    · split
      · exact h
      · rename_i h3 h4
        refine List.pairwise_cons.2 ⟨fun y hy => ?_, h⟩
        rcases List.mem_cons.1 hy with rfl | hy
        · omega
        · have := h1 y hy; omega
theorem insI_length (x : Int) : ∀ (l : List Int), (insI l x).length ≤ l.length + 1
  | [] => by simp [insI]
  | a :: l => by
    have := insI_length x l
    unfold insI
    split
    · simp; omega
    · split <;> simp
def idsK (l : List Ev) : Nat → List Int
  | 0 => []
  | k + 1 => insI (idsK l k) (evA l k).task
theorem idsK_sorted (l : List Ev) : ∀ k, (idsK l k).Pairwise (· < ·)
  | 0 => List.Pairwise.nil
  | k + 1 => insI_sorted _ _ (idsK_sorted l k)
theorem idsK_length (l : List Ev) : ∀ k, (idsK l k).length ≤ k
  | 0 => Nat.le_refl _
  | k + 1 => Nat.le_trans (insI_length _ _) (Nat.succ_le_succ (idsK_length l k))
/-- A task's tally and waits behind the first events. -/
def rowT (l : List Ev) (x : Int) : Nat → Ty × List (Int × Int)
  | 0 => (⟨x, 0, 0, 0, 0, 0, 0⟩, [])
  | k + 1 => if (evA l k).task = x then (seeT (evA l k) (rowT l x k).1 (rowT l x k).2, seeL (evA l k) (rowT l x k).2) else rowT l x k
theorem goK_keeps {e : Ev} {t : Ty} {L : List (Int × Int)} : ∀ k, (goK e t L k).id = t.id ∧ (goK e t L k).d = t.d ∧ (goK e t L k).p = t.p ∧ (goK e t L k).a = t.a ∧ (goK e t L k).b = t.b ∧ (goK e t L k).e = t.e
  | 0 => ⟨rfl, rfl, rfl, rfl, rfl, rfl⟩
  | k + 1 => by
    have ih := goK_keeps (e := e) (t := t) (L := L) k
    rw [goK, seeW]
    split
    · exact ih
    · exact ih
theorem TyIn.succ {t : Ty} {k : Nat} (h : TyIn t k) : TyIn t (k + 1) := by
  obtain ⟨h1, h2, h3, h4, h5, h6⟩ := h
  constructor <;> first | exact h6 | omega
theorem seeT_in {e : Ev} {t : Ty} {L : List (Int × Int)} {k : Nat} (h1 : U64 e.time) (h2 : ∀ k, U64 (waA L k).2) (h : TyIn t k) : TyIn (seeT e t L) (k + 1) := by
  obtain ⟨i1, i2, i3, i4, i5, i6⟩ := h
  have gk : ∀ t', TyIn t' (k + 1) → TyIn (goK e t' L L.length) (k + 1) := fun t' ht' => by
    obtain ⟨g0, g1, g2, g3, g4, g5⟩ := goK_keeps (e := e) (t := t') (L := L) L.length
    exact ⟨by rw [g1]; exact ht'.d, by rw [g2]; exact ht'.p, by rw [g3]; exact ht'.a, by rw [g4]; exact ht'.b, by rw [g5]; exact ht'.e, goK_in h1 h2 ht'.wt _⟩
  unfold seeT
  split
  · constructor <;> first | exact i6 | (simp only; omega)
  split
  · constructor <;> first | exact i6 | (simp only; omega)
  split
  · refine gk _ ?_
    constructor <;> first | exact i6 | (simp only; omega)
  split
  · constructor <;> first | exact i6 | (simp only; omega)
  split
  · refine gk _ ?_
    constructor <;> first | exact i6 | (simp only; omega)
  split
  · exact gk _ (TyIn.succ ⟨i1, i2, i3, i4, i5, i6⟩)
  · exact TyIn.succ ⟨i1, i2, i3, i4, i5, i6⟩
theorem waA_mem {L : List (Int × Int)} (h : ∀ x ∈ L, U64 x.2) (k : Nat) : U64 (waA L k).2 := by
  unfold waA
  cases hk : L[k]? with
  | none => show U64 0; exact ⟨by decide, by decide⟩
  | some x => exact h x (List.mem_of_getElem? hk)
theorem seeL_in {e : Ev} {L : List (Int × Int)} (h1 : U64 e.time) (h : ∀ x ∈ L, U64 x.2) : ∀ x ∈ seeL e L, U64 x.2 := by
  unfold seeL
  split
  · intro x hx
    rcases List.mem_append.1 hx with hx | hx
    · exact h x hx
    · simp at hx; subst hx; exact h1
  · split
    · intro x hx
      exact h x (List.mem_filter.1 hx).1
    · exact h
theorem seeL_length (e : Ev) (L : List (Int × Int)) : (seeL e L).length ≤ L.length + 1 := by
  unfold seeL
  split
  · simp
  · split
    · have := leftF_le e L; omega
    · omega
theorem rowT_in {l : List Ev} (h : ∀ k, U64 (evA l k).time) (x : Int) : ∀ k, TyIn (rowT l x k).1 k ∧ (∀ y ∈ (rowT l x k).2, U64 y.2) ∧ (rowT l x k).2.length ≤ k
  | 0 => ⟨by
      rw [show (rowT l x 0).1 = ⟨x, 0, 0, 0, 0, 0, 0⟩ from rfl]
      constructor <;> first | (simp; done) | (show U64 0; exact ⟨by decide, by decide⟩), fun y hy => by simp [rowT] at hy, Nat.le_refl _⟩
  | k + 1 => by
    obtain ⟨h1, h2, h3⟩ := rowT_in h x k
    rw [rowT]
    split
    · exact ⟨seeT_in (h k) (waA_mem h2) h1, seeL_in (h k) h2, Nat.le_trans (seeL_length _ _) (Nat.succ_le_succ h3)⟩
    · exact ⟨h1.succ, h2, Nat.le_succ_of_le h3⟩
/-- The map, and the rows that it points to, behind the first events. -/
structure TkAt (B bm : Nat) (l : List Ev) (k : Nat) (S : Int → Prop) (f : Int → Option Nat) (FF : Int → Nat → Prop) (w : World) : Prop where
  map : ∃ c, MapP Try.prog 3 w bm f c ∧ c ≤ k + 1
  mem : ∀ x, (f x).isSome = true ↔ S x
  row : ∀ x b, f x = some b → RwO B b (rowT l x k).1 (rowT l x k).2 w (FF x)
  apart : ∀ x y, x ≠ y → (f x).isSome = true → (f y).isSome = true → ∀ q, FF x q → ¬ FF y q
  lt : bm < B
theorem rowT_none {l : List Ev} {x : Int} : ∀ {k}, x ∉ idsK l k → rowT l x k = (⟨x, 0, 0, 0, 0, 0, 0⟩, [])
  | 0, _ => rfl
  | k + 1, h => by
    rw [idsK, insI_mem] at h
    rw [rowT, if_neg (fun e => h (.inl e.symm)), rowT_none (fun e => h (.inr e))]
theorem TkAt.foot {B bm k : Nat} {l : List Ev} {S : Int → Prop} {f : Int → Option Nat} {FF : Int → Nat → Prop} {w : World} (h : TkAt B bm l k S f FF w) : ∀ y, (f y).isSome = true → ∀ q, FF y q → B ≤ q ∧ q < w.heap.size := fun y hy q hq => by
  obtain ⟨d, hd⟩ := Option.isSome_iff_exists.1 hy
  exact (RwO.isO B d _ _).foot (h.row y d hd) hq
theorem TkAt.iff {B bm k : Nat} {l : List Ev} {S S' : Int → Prop} {f : Int → Option Nat} {FF : Int → Nat → Prop} {w : World} (h : TkAt B bm l k S f FF w) (hS : ∀ y, S y ↔ S' y) : TkAt B bm l k S' f FF w := ⟨h.map, fun x => (h.mem x).trans (hS x), h.row, h.apart, h.lt⟩
/-- Nothing of it has turned. -/
theorem TkAt.far {B bm k : Nat} {l : List Ev} {S : Int → Prop} {f : Int → Option Nat} {FF : Int → Nat → Prop} {w w' : World} (h : TkAt B bm l k S f FF w) (hb : Below w.heap.size w w') : TkAt B bm l k S f FF w' := by
  obtain ⟨c, hm, hc⟩ := h.map
  exact ⟨⟨c, hm.below hb hm.lt, hc⟩, h.mem, fun x b hx => (RwO.isO B b _ _).far (h.row x b hx) hb, h.apart, h.lt⟩
/-- A new row: its block, and its entry. -/
theorem TkAt.fresh {B bm k c d : Nat} {l : List Ev} {S : Int → Prop} {f : Int → Option Nat} {FF : Int → Nat → Prop} {w w' : World} {x : Int} (h : TkAt B bm l k S f FF w) (hx : f x = none) (hr : rowT l x k = (⟨x, 0, 0, 0, 0, 0, 0⟩, []))
    (hB : B ≤ w.heap.size) (hm : MapP Try.prog 3 w' bm (updP f x d) c) (hc : c ≤ k + 1) (hd : d = w.heap.size) (hk : Kept (fun q => q = bm) (w.alloc (.cells (rowV ⟨x, 0, 0, 0, 0, 0, 0⟩ (.slice none 0 0)).toArray tRow)) w') :
    TkAt B bm l k (fun y => S y ∨ y = x) (updP f x d) (fun y q => if y = x then q = d else FF y q) w' := by
  have hk2 : Kept (fun q => q = bm) w w' := (show Kept (fun q => q = bm) w (w.alloc (.cells (rowV ⟨x, 0, 0, 0, 0, 0, 0⟩ (.slice none 0 0)).toArray tRow)) from (Kept.refl _ w).alloc _).trans hk
  have hls := h.lt
  have hsz : d < w'.heap.size := by
    have := hk.size
    rw [hd]
    simp [go_sem] at this
    omega
  refine ⟨⟨c, hm, hc⟩, fun y => ?_, fun y b hy => ?_, fun y z hyz hy hz q hq => ?_, h.lt⟩
  · unfold updP
    by_cases e : y = x
    · rw [if_pos e]; simp [e]
    · rw [if_neg e, h.mem y]; simp [e]
  · unfold updP at hy
    by_cases e : y = x
    · subst e
      rw [if_pos rfl] at hy
      cases hy
      rw [hr]
      refine ⟨none, 0, ?_, ⟨rfl, .inl ⟨rfl, rfl⟩⟩, by simp only [if_true], fun g o e => (by cases e), fun q hq => ?_⟩
      · have h1 : Rec (w.alloc (.cells (rowV ⟨y, 0, 0, 0, 0, 0, 0⟩ (.slice none 0 0)).toArray tRow)) d tRow (rowV ⟨y, 0, 0, 0, 0, 0, 0⟩ (.slice none 0 0)).toArray := by rw [hd]; exact Rec.new w _ _
        exact h1.kept hk (by omega)
      · simp only [if_true] at hq
        subst hq
        exact ⟨by omega, hsz⟩
    · rw [if_neg e] at hy
      have h2 := (RwO.isO B b _ _).kept (h.row y b hy) hk2 (fun q hq hb => by have := (h.foot y (by rw [hy]; rfl) q hq).1; omega)
      have e2 : (fun q => if y = x then q = d else FF y q) = FF y := by funext q; rw [if_neg e]
      rw [e2]
      exact h2
  · unfold updP at hy hz
    have hf := h.foot
    by_cases h1 : y = x
    · have h2 : z ≠ x := fun e => hyz (h1.trans e.symm)
      rw [if_pos h1] at hq
      rw [if_neg h2]
      rw [if_neg h2] at hz
      intro hq2
      have := (hf z hz q hq2).2
      omega
    · rw [if_neg h1] at hq hy
      by_cases h2 : z = x
      · rw [if_pos h2]
        intro hq2
        have := (hf y hy q hq).2
        omega
      · rw [if_neg h2]
        rw [if_neg h2] at hz
        exact h.apart y z hyz hy hz q hq
/-- The event of a task that has a row: behind 'see'. -/
theorem TkAt.seen {B bm k b : Nat} {l : List Ev} {S : Int → Prop} {f : Int → Option Nat} {FF : Int → Nat → Prop} {w w' : World} (h : TkAt B bm l k S f FF w) (hx : f (evA l k).task = some b)
    (ha : After (RwO B b (seeT (evA l k) (rowT l (evA l k).task k).1 (rowT l (evA l k).task k).2) (seeL (evA l k) (rowT l (evA l k).task k).2)) (FF (evA l k).task) w w') :
    ∃ FF', TkAt B bm l (k + 1) S f FF' w' := by
  obtain ⟨F', a1, a2, a3⟩ := ha
  obtain ⟨x, ex⟩ : ∃ x, (evA l k).task = x := ⟨_, rfl⟩
  rw [ex] at hx a1 a2 a3
  obtain ⟨c, hm, hc⟩ := h.map
  have hfoot := h.foot
  refine ⟨fun y => if y = x then F' else FF y, ⟨c, hm.kept a3 (fun hb => ?_), Nat.le_succ_of_le hc⟩, h.mem, fun y d hd => ?_, fun y z hyz hy hz q hq => ?_, h.lt⟩
  · have := hfoot x (by rw [hx]; rfl) _ hb
    have := h.lt
    omega
  · rw [rowT, ex]
    by_cases hyx : y = x
    · subst hyx
      rw [if_pos rfl, if_pos rfl]
      rw [hx] at hd
      cases hd
      exact a1
    · rw [if_neg (fun e => hyx e.symm), if_neg hyx]
      exact (RwO.isO B d _ _).kept (h.row y d hd) a3 (h.apart y x hyx (by rw [hd]; rfl) (by rw [hx]; rfl))
  · have hnew : ∀ q, F' q → FF x q ∨ w.heap.size ≤ q := a2
    by_cases h1 : y = x
    · have h2 : z ≠ x := fun e => hyz (h1.trans e.symm)
      rw [if_pos h1] at hq
      rw [if_neg h2]
      intro hq2
      rcases hnew q hq with g | g
      · exact h.apart x z (fun e => h2 e.symm) (by rw [hx]; rfl) hz q g hq2
      · have := (hfoot z hz q hq2).2; omega
    · rw [if_neg h1] at hq
      by_cases h2 : z = x
      · rw [if_pos h2]
        intro hq2
        rcases hnew q hq2 with g | g
        · exact h.apart y x h1 hy (by rw [hx]; rfl) q hq g
        · have := (hfoot y hy q hq).2; omega
      · rw [if_neg h2]
        exact h.apart y z hyz hy hz q hq
end Go.Proofs.Ytdeejiiegmddaaa
