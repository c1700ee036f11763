/-
  Layer 04: the document's heap: in memory; New, Has, First. No condition.
-/
import Derived.Test.YtcbdghjakdbedaaHpQ
namespace Go.Proofs.Ytcbdghjakdbedaa
open Go Go.RowKit HpI
abbrev It := Hp.It Int
abbrev tR : TypeId := 48
abbrev tRI : TypeId := 39
def itD (L : List It) (k : Nat) : It := L[k]?.getD ⟨0, 0, 0⟩
/-- The place of the one that is due first, of the first k. -/
def bestF (L : List It) : Nat → Int
  | 0 => -1
  | k + 1 => if bestF L k < 0 ∨ Hp.lt (itD L k) (itD L (bestF L k).toNat) then (k : Int) else bestF L k
theorem best_in (L : List It) : ∀ k, (k = 0 ∧ bestF L k = -1) ∨ (0 < k ∧ 0 ≤ bestF L k ∧ bestF L k < k ∧ ∀ j, j < k → ¬ Hp.lt (itD L j) (itD L (bestF L k).toNat))
  | 0 => .inl ⟨rfl, rfl⟩
  | k + 1 => by
    refine .inr ⟨by omega, ?_⟩
    have ih := best_in L k
    have e : bestF L (k + 1) = if bestF L k < 0 ∨ Hp.lt (itD L k) (itD L (bestF L k).toNat) then (k : Int) else bestF L k := rfl
    by_cases h : bestF L k < 0 ∨ Hp.lt (itD L k) (itD L (bestF L k).toNat)
    · rw [if_pos h] at e
      rw [e]
      refine ⟨by omega, by omega, fun j hj => ?_⟩
      simp only [Int.toNat_natCast]
      by_cases hjk : j = k
      · subst hjk; exact Hp.lt_irrefl _
      · rcases ih with ⟨h0, _⟩ | ⟨_, h1, h2, h3⟩
        · omega
        · rcases h with h | h
          · omega
          · intro hl
            exact h3 j (by omega) (by unfold Hp.lt at *; omega)
    · rw [if_neg h] at e
      rw [e]
      rcases ih with ⟨h0, h1⟩ | ⟨_, h1, h2, h3⟩
      · exact absurd (.inl (by omega)) h
      · refine ⟨h1, by omega, fun j hj => ?_⟩
        by_cases hjk : j = k
        · subst hjk; exact fun hl => h (.inr hl)
        · exact h3 j (by omega)
def firstF (L : List It) : Int := bestF L L.length
theorem first_in (L : List It) : (L = [] ∧ firstF L = -1) ∨ ∃ (i : Nat) (h : i < L.length), firstF L = i ∧ Least L L[i] := by
  rcases best_in L L.length with ⟨h0, h1⟩ | ⟨h0, h1, h2, h3⟩
  · exact .inl ⟨List.eq_nil_of_length_eq_zero h0, h1⟩
  · refine .inr ⟨(firstF L).toNat, by unfold firstF; omega, by unfold firstF; omega, List.getElem_mem _, fun y hy => ?_⟩
    obtain ⟨j, hj, rfl⟩ := List.getElem_of_mem hy
    have h4 := h3 j hj
    have e : ∀ q (hq : q < L.length), itD L q = L[q] := fun q hq => by unfold itD; rw [List.getElem?_eq_getElem hq]; rfl
    rw [e j hj, e _ (by omega)] at h4
    exact h4
/-- Where an id is; below 0. -/
def hasF (L : List It) (z : Int) : Int := (idx L z).getD (-1)
theorem has_in (L : List It) (z : Int) : (¬ z ∈ L.map (·.id) ∧ hasF L z = -1) ∨ ∃ (i : Nat) (h : i < L.length), hasF L z = i ∧ L[i].id = z ∧ ∀ j (hj : j < i), (L[j]'(by omega)).id ≠ z := by
  unfold hasF idx
  cases h : L.findIdx? (fun y => y.id == z) with
  | none =>
    refine .inl ⟨fun hm => ?_, rfl⟩
    obtain ⟨x, hx, e⟩ := List.mem_map.1 hm
    have := List.findIdx?_eq_none_iff.1 h x hx
    simp [e] at this
  | some i =>
    obtain ⟨h1, h2, h3⟩ := List.findIdx?_eq_some_iff_getElem.1 h
    refine .inr ⟨i, h1, rfl, by simpa using h2, fun j hj => by simpa using h3 j hj⟩
theorem hasF_at {L : List It} {z : Int} {i : Nat} (h : i < L.length) (e : L[i].id = z) (hl : ∀ j (hj : j < i), (L[j]'(by omega)).id ≠ z) : hasF L z = i := by
  unfold hasF idx
  rw [List.findIdx?_eq_some_iff_getElem.2 ⟨h, by simpa using e, fun j hj => by simpa using hl j hj⟩]
  rfl
theorem hasF_none {L : List It} {z : Int} (h : ∀ j (hj : j < L.length), L[j].id ≠ z) : hasF L z = -1 := by
  unfold hasF
  rw [idx_none fun x hx => by obtain ⟨j, hj, rfl⟩ := List.getElem_of_mem hx; exact h j hj]
  rfl
/-- The document's heap. -/
structure RHp (B : Nat) (w : World) (b : Nat) (most : Int) (L : List It) : Prop where
  big : B ≤ b
  ex : ∃ a c, Rec w b tR #[.int .i64 most, .slice a L.length c] ∧ w.ownsRow B tRI 3 (.slice a L.length c) L.length (tab itV L)
section
variable {B : Nat} {w w' : World} {b : Nat} {most : Int} {L : List It}
theorem RHp.far (h : RHp B w b most L) (hb : Below w.heap.size w w') : RHp B w' b most L := by
  obtain ⟨a, c, h1, h2⟩ := h.ex
  exact ⟨h.big, a, c, h1.below hb (Nat.le_refl _), own_below h2 hb (Nat.le_refl _)⟩
theorem RHp.lt (h : RHp B w b most L) : b < w.heap.size := by obtain ⟨a, c, h1, _⟩ := h.ex; exact h1.lt
theorem RHp.cells (h : RHp B w b most L) : ∃ a c, w.cell? ⟨b, 0, none⟩ = some (.int .i64 most) ∧ w.cell? ⟨b, 1, none⟩ = some (.slice a L.length c) ∧
    ∀ k (hk : k < L.length), ∃ g, a = some ⟨g, 0, none⟩ ∧ w.cell? ⟨g, k * 3, none⟩ = some (.int .u64 L[k].v) ∧ w.cell? ⟨g, k * 3 + 1, none⟩ = some (.int .i64 L[k].id) ∧ w.cell? ⟨g, k * 3 + 2, none⟩ = some (.int .i64 L[k].x) := by
  obtain ⟨a, c, h1, h2⟩ := h.ex
  refine ⟨a, c, by rw [Rec.cell h1 0]; rfl, by rw [Rec.cell h1 1]; rfl, fun k hk => ?_⟩
  obtain ⟨g, cap, eA, _⟩ := own_succ h2 (by omega)
  cases eA
  exact ⟨g, rfl, own_cell (j := 0) itV_length h2 (List.getElem?_eq_getElem hk) (by omega), own_cell (j := 1) itV_length h2 (List.getElem?_eq_getElem hk) (by omega), own_cell (j := 2) itV_length h2 (List.getElem?_eq_getElem hk) (by omega)⟩
def RNewPost (B : Nat) (most : Int) (w : World) (e : Ending) (w' : World) : Prop := ∃ b, e = .returned (.pointer (some ⟨b, 0, none⟩)) ∧ RHp B w' b (mostH most) [] ∧ Below w.heap.size w w' ∧ w.heap.size ≤ b
set_option maxRecDepth 100000 in
set_option maxHeartbeats 4000000 in
theorem RNew_any (most : Int) (w : World) (hB : B ≤ w.heap.size) : Calls Try.prog 7 #[.int .i64 most] w (RNewPost B most w) := by
  obtain ⟨m, hm⟩ : ∃ m, mostH most = m := ⟨_, rfl⟩
  have HM := hid hm
  have key : ∀ W : World, W = w.alloc (.cells #[.int .i64 m, .slice none 0 0] tR) → RHp B W w.heap.size m [] ∧ Below w.heap.size w W := by
    rintro _ rfl
    exact ⟨⟨hB, none, 0, Rec.new w _ _, rfl, .inl ⟨rfl, rfl⟩⟩, (Below.refl _ w).alloc (Nat.le_refl _) _⟩
  have K := hid key
  unfold mostH at hm
  clear key
  by_cases h1 : most < 0
  · obtain rfl : m = 0 := by omega
    clear hm
    go_enter Try.func7, Try.ntmps7
    go_wp2
    go_ret
    exact ⟨_, rfl, by rw [HM.out]; exact (K.out _ rfl).1, (K.out _ rfl).2, Nat.le_refl _⟩
  · by_cases h2 : 4096 < most
    · obtain rfl : m = 4096 := by omega
      clear hm
      go_enter Try.func7, Try.ntmps7
      go_wp2
      go_ret
      exact ⟨_, rfl, by rw [HM.out]; exact (K.out _ rfl).1, (K.out _ rfl).2, Nat.le_refl _⟩
    · obtain rfl : m = most := by omega
      clear hm
      go_enter Try.func7, Try.ntmps7
      go_wp2
      go_ret
      exact ⟨_, rfl, by rw [HM.out]; exact (K.out _ rfl).1, (K.out _ rfl).2, Nat.le_refl _⟩
set_option maxRecDepth 100000 in
set_option maxHeartbeats 4000000 in
theorem RHas_any (h : RHp B w b most L) (hl : L.length ≤ 4096) (z : Int) : Calls Try.prog 14 #[.pointer (some ⟨b, 0, none⟩), .int .i64 z] w (Gives (.int .i64 (hasF L z)) w) := by
  obtain ⟨a, c, q0, q1, qs⟩ := h.cells
  have QS := hid qs
  have HI := hid (And.intro (@hasF_at L z) (@hasF_none L z))
  obtain ⟨n, en⟩ : ∃ n, L.length = n := ⟨_, rfl⟩
  have EN := hid en
  rw [en] at q1 hl
  clear h qs q0 en
  go_enter Try.func14, Try.ntmps14
  go_wp2
  go_loop [5] (fun i => ∃ k : Nat, i = .int .i64 k ∧ k ≤ n ∧ Hid (∀ j (hj : j < L.length), j < k → L[j].id ≠ z)) (fun i => n - natC i)
  case atStart => exact ⟨0, rfl, by omega, hid (fun _ _ h => absurd h (by omega))⟩
  case round =>
    obtain ⟨k, rfl, hk, hR⟩ := hrel
    by_cases hlt : k < n
    · obtain ⟨g, rfl, -, c1, -⟩ := QS.out k (by rw [EN.out]; exact hlt)
      obtain ⟨y, ey⟩ : ∃ y, L[k]'(by rw [EN.out]; exact hlt) = y := ⟨_, rfl⟩
      rw [ey] at c1
      have EY := hid ey
      clear ey
      by_cases he : y.id = z
      · have d : (y.id == z) = true := by simp [he]
        have HE := hid he
        clear he
        go_wp2_with fail
        go_ret
        refine Gives.mk ?_ (Below.refl _ _)
        rw [HI.out.1 (i := k) (by rw [EN.out]; exact hlt) (by rw [EY.out]; exact HE.out) (fun j hj => hR.out j (by rw [EN.out]; omega) hj)]
        rfl
      · have d : (y.id == z) = false := by simp [he]
        have HE := hid he
        clear he
        go_wp2_with fail
        go_round
        case rel => exact ⟨k + 1, by go_num, by omega, hid (fun j hj hjk => by
          by_cases e : j = k
          · subst e; rw [EY.out]; exact HE.out
          · exact hR.out j hj (by omega))⟩
        case measure => simp [natC]; omega
    · obtain rfl : k = n := by omega
      go_wp2_with fail
      go_ret
      refine Gives.mk ?_ (Below.refl _ _)
      rw [HI.out.2 (fun j hj => hR.out j hj (by rw [EN.out] at hj; exact hj))]
      rfl
set_option maxRecDepth 100000 in
set_option maxHeartbeats 4000000 in
theorem RFirst_any (h : RHp B w b most L) (hl : L.length ≤ 4096) : Calls Try.prog 12 #[.pointer (some ⟨b, 0, none⟩)] w (Gives (.int .i64 (firstF L)) w) := by
  obtain ⟨a, c, q0, q1, qs⟩ := h.cells
  have QS := hid qs
  obtain ⟨n, en⟩ : ∃ n, L.length = n := ⟨_, rfl⟩
  have EN := hid en
  rw [en] at q1 hl
  have HF := hid (show firstF L = bestF L n by rw [← en]; rfl)
  clear h qs q0 en
  go_enter Try.func12, Try.ntmps12
  go_wp2
  go_loopw [3, 4] (fun v i wr => ∃ (k : Nat) (x : Past), i = .int .i64 k ∧ k ≤ n ∧ v = .int .i64 (bestF L k) ∧ wr = w.past x) (fun _ i _ => n - natC i)
  case atStart => exact ⟨0, ⟨#[], w.drawn⟩, rfl, by omega, rfl, World.past_refl w⟩
  case round =>
    obtain ⟨k, x0, rfl, hk, rfl, rfl⟩ := hrel
    by_cases hlt : k < n
    · have HB := hid (best_in L k)
      have HS := hid (show bestF L (k + 1) = if bestF L k < 0 ∨ Hp.lt (itD L k) (itD L (bestF L k).toNat) then (k : Int) else bestF L k from rfl)
      obtain ⟨g, rfl, c0, c1, -⟩ := QS.out k (by rw [EN.out]; exact hlt)
      have eD : ∀ q (hq : q < L.length), L[q] = itD L q := fun q hq => by unfold itD; rw [List.getElem?_eq_getElem hq]; rfl
      rw [eD] at c0 c1
      obtain ⟨x, ex⟩ : ∃ x, itD L k = x := ⟨_, rfl⟩
      rw [ex] at c0 c1 HS
      rcases HB.out with ⟨h0, h1⟩ | ⟨h0, h1, h2, h3⟩
      · subst h0
        have HS2 := hid (show bestF L (0 + 1) = 0 by rw [HS.out, if_pos (.inl (by rw [h1]; omega))]; rfl)
        clear HS ex eD c0 c1 h1
        rw [show bestF L 0 = -1 from rfl]
        go_wp2_with fail
        refine wp_region_past (by kernel_rfl) (by kernel_rfl) ?_
        repeat (go_big_quiet_step ((fail)))
        refine wpQuiet_nil ?_
        rintro _ ⟨_, rfl⟩
        go_wp2_with fail
        go_roundw
        case rel => exact ⟨1, _, by go_num, by omega, by rw [show (1 : Nat) = 0 + 1 from rfl, HS2.out], rfl⟩
        case measure => simp [natC]; omega
      · obtain ⟨j, ej⟩ := Int.eq_ofNat_of_zero_le h1
        rw [ej] at HS h2 ⊢
        have hj : j < n := by omega
        obtain ⟨g', eg, d0, d1, -⟩ := QS.out j (by rw [EN.out]; exact hj)
        cases eg
        rw [eD] at d0 d1
        obtain ⟨y, ey⟩ : ∃ y, itD L j = y := ⟨_, rfl⟩
        rw [show ((j : Int)).toNat = j from rfl, ey] at HS
        rw [ey] at d0 d1
        clear HB ex ey eD h3 h1
        have hj0 : ¬ (j : Int) < 0 := by omega
        have hj1 : decide ((j : Int) < 0) = false := by simp
        have HEJ := hid ej
        clear ej
        by_cases b1 : x.v < y.v
        · have t1 : decide (x.v < y.v) = true := by simp [b1]
          have HS2 := hid (show bestF L (k + 1) = k by rw [HS.out, if_pos (.inr (.inl b1))])
          clear HS
          go_wp2_with fail
          refine wp_region_past (by kernel_rfl) (by kernel_rfl) ?_
          repeat (go_big_quiet_step ((fail)))
          refine wpQuiet_nil ?_
          rintro _ ⟨_, rfl⟩
          go_wp2_with fail
          go_roundw
          case rel => exact ⟨k + 1, _, by go_num, by omega, by rw [HS2.out], rfl⟩
          case measure => simp [natC]; omega
        · have t1 : decide (x.v < y.v) = false := by simp; omega
          by_cases b2 : x.v = y.v
          · have t2 : (x.v == y.v) = true := by simp [b2]
            by_cases b3 : x.id < y.id
            · have t3 : decide (x.id < y.id) = true := by simp [b3]
              have HS2 := hid (show bestF L (k + 1) = k by rw [HS.out, if_pos (.inr (.inr ⟨b2, b3⟩))])
              clear HS b2
              go_wp2_with fail
              refine wp_region_past (by kernel_rfl) (by kernel_rfl) ?_
              repeat (go_big_quiet_step ((fail)))
              refine wpQuiet_nil ?_
              rintro _ ⟨_, rfl⟩
              go_wp2_with fail
              go_roundw
              case rel => exact ⟨k + 1, _, by go_num, by omega, by rw [HS2.out], rfl⟩
              case measure => simp [natC]; omega
            · have t3 : decide (x.id < y.id) = false := by simp; omega
              have HS2 := hid (show bestF L (k + 1) = j by rw [HS.out, if_neg (by unfold Hp.lt; omega)])
              clear HS b2
              go_wp2_with fail
              refine wp_region_past (by kernel_rfl) (by kernel_rfl) ?_
              repeat (go_big_quiet_step ((fail)))
              refine wpQuiet_nil ?_
              rintro _ ⟨_, rfl⟩
              go_wp2_with fail
              go_roundw
              case rel => exact ⟨k + 1, _, by go_num, by omega, by rw [HS2.out], rfl⟩
              case measure => simp [natC]; omega
          · have t2 : (x.v == y.v) = false := by simp [b2]
            have HS2 := hid (show bestF L (k + 1) = j by rw [HS.out, if_neg (by unfold Hp.lt; omega)])
            clear HS b2
            go_wp2_with fail
            refine wp_region_past (by kernel_rfl) (by kernel_rfl) ?_
            repeat (go_big_quiet_step ((fail)))
            refine wpQuiet_nil ?_
            rintro _ ⟨_, rfl⟩
            go_wp2_with fail
            go_roundw
            case rel => exact ⟨k + 1, _, by go_num, by omega, by rw [HS2.out], rfl⟩
            case measure => simp [natC]; omega
    · obtain rfl : k = n := by omega
      go_wp2_with fail
      go_ret
      refine Gives.mk ?_ (World.below_past _ _)
      rw [HF.out]
      rfl
end
end Go.Proofs.Ytcbdghjakdbedaa
