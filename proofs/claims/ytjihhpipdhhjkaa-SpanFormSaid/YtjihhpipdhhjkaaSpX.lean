/-
  Layer 33: the law's looks at its deeds, and at spans. No condition.
-/
import Derived.Test.YtjihhpipdhhjkaaSpW
import Derived.Test.YtjihhpipdhhjkaaSpG
namespace Go.Proofs.Ytjihhpipdhhjkaa
open Go.RowKit
attribute [local go_sem] Oper.semAt_some
structure Dd where
  k : Int
  a : Int
  b : Int
instance : Inhabited Dd := ⟨⟨0, 0, 0⟩⟩
def ddV (x : Dd) : List Value := [.int .u8 x.k, .int .i64 x.a, .int .i64 x.b]
theorem ddV_length (x : Dd) : (ddV x).length = 3 := rfl
def dd (l : List Dd) (k : Nat) : Dd := l[k]?.getD default
theorem dd_at {w : World} {A : Option Addr} {l : List Dd} (h : Cells w A (tab ddV l)) {k : Nat} (hk : k < l.length) :
    ∃ b off : Nat, A = some ⟨b, off, none⟩ ∧ w.cell? ⟨b, off + k * 3, none⟩ = some (.int .u8 (dd l k).k) ∧ w.cell? ⟨b, off + k * 3 + 1, none⟩ = some (.int .i64 (dd l k).a) ∧ w.cell? ⟨b, off + k * 3 + 2, none⟩ = some (.int .i64 (dd l k).b) := by
  have e : l[k]? = some (dd l k) := by simp [dd, hk]
  obtain ⟨b, off, rfl, hc⟩ := h.tab_at ddV_length e (by omega)
  exact ⟨b, off, rfl, by simpa using hc 0 _ rfl, hc 1 _ rfl, hc 2 _ rfl⟩
def DdOk (x : Dd) : Prop := -200 ≤ x.a ∧ x.a ≤ 200 ∧ -200 ≤ x.b ∧ x.b ≤ 200
instance (x : Dd) : Decidable (DdOk x) := by unfold DdOk; infer_instance
def fewB (l : List Dd) : Bool := decide (l.length ≤ 60 ∧ ∀ x ∈ l, DdOk x)
set_option maxRecDepth 100000 in
set_option maxHeartbeats 4000000 in
theorem few_any (A : Option Addr) (ca n : Nat) (l : List Dd) (en : l.length = n) (hn : n ≤ maxLen) (w : World) (ha : Cells w A (tab ddV l)) :
    Calls Try.prog 7 #[.slice A n ca] w (Gives (.bool (fewB l)) w) := by
  unfold maxLen at hn
  have EN := hid en
  have HA := hid ha
  by_cases h60 : 60 < n
  · have HF := hid (show fewB l = false by unfold fewB; simp; omega)
    clear en ha
    go_enter Try.func7, Try.ntmps7
    go_wp2
    go_ret
    exact Gives.mk (by rw [HF.out]; rfl) (Below.refl _ _)
  · clear en ha
    go_enter Try.func7, Try.ntmps7
    go_wp2_with fail
    go_loopw [4, 10] (fun _ i wr => ∃ (k : Nat) (x : Past), i = .int .i64 (k : Int) ∧ k ≤ n ∧ Hid (∀ j, j < k → DdOk (dd l j)) ∧ wr = w.past x) (fun _ i _ => n - natI i)
    case atStart => exact ⟨0, _, rfl, by omega, hid (fun j h => by omega), w.past_refl⟩
    case round =>
      obtain ⟨k, x, rfl, hk, HK, rfl⟩ := hrel
      by_cases hlt : k < n
      · obtain ⟨b, o, rfl, c0, c1, c2⟩ := dd_at (HA.out.past x) (k := k) (by rw [EN.out]; exact hlt)
        have HOK := hid (show DdOk (dd l k) ↔ (-200 ≤ (dd l k).a ∧ (dd l k).a ≤ 200 ∧ -200 ≤ (dd l k).b ∧ (dd l k).b ≤ 200) from Iff.rfl)
        obtain ⟨d, ed⟩ : ∃ d, dd l k = d := ⟨_, rfl⟩
        have ED := hid ed
        rw [ed] at c0 c1 c2 HOK
        clear ed
        have hcase : DdOk d ∨ d.a < -200 ∨ (-200 ≤ d.a ∧ 200 < d.a) ∨ (-200 ≤ d.a ∧ d.a ≤ 200 ∧ d.b < -200) ∨ (-200 ≤ d.a ∧ d.a ≤ 200 ∧ -200 ≤ d.b ∧ 200 < d.b) := by rw [HOK.out]; omega
        have HBX := hid (fun (o : Obj) => (past_of ((w.below_past x).alloc (by simp [World.size_past]) o) : ∃ y, (w.past x).alloc o = w.past y))
        obtain ⟨dk, da, db⟩ := d
        simp only at c0 c1 c2 hcase HOK
        rcases hcase with h | h | h | h | h
        · have h5 := HOK.out.1 h
          obtain ⟨h1, h2, h3, h4⟩ := h5
          clear h
          go_wp2_with fail
          obtain ⟨y, ey⟩ := HBX.out (.cells #[.int .u8 dk, .int .i64 da, .int .i64 db] 28)
          go_roundw
          case rel => exact ⟨k + 1, y, by go_num, by omega, hid (fun j hj => by
            by_cases e : j = k
            · subst e; rw [ED.out]; exact HOK.out.2 ⟨h1, h2, h3, h4⟩
            · exact HK.out j (by omega)), ey⟩
          case measure => simp [natI]; omega
        all_goals
          have HF := hid (show fewB l = false by
            unfold fewB
            have : ¬ (l.length ≤ 60 ∧ ∀ x ∈ l, DdOk x) := fun g => by
              have hm : dd l k ∈ l := by unfold dd; rw [List.getElem?_eq_getElem (by rw [EN.out]; exact hlt)]; exact List.getElem_mem _
              have := g.2 _ hm
              rw [ED.out, HOK.out] at this
              omega
            exact decide_eq_false this)
        · go_wp2_with fail
          go_ret
          exact Gives.mk (by rw [HF.out]; rfl) (by (repeat (first | exact Below.refl _ _ | refine RowKit.Below.past ?_ _ | refine RowKit.Below.alloc' ?_ _ | refine RowKit.Below.drew' ?_ | refine RowKit.Below.drewN' ?_ _ | refine RowKit.Below.setCell' ?_ (by simp [go_sem]) _)))
        · obtain ⟨h1, h2⟩ := h
          go_wp2_with fail
          go_ret
          exact Gives.mk (by rw [HF.out]; rfl) (by (repeat (first | exact Below.refl _ _ | refine RowKit.Below.past ?_ _ | refine RowKit.Below.alloc' ?_ _ | refine RowKit.Below.drew' ?_ | refine RowKit.Below.drewN' ?_ _ | refine RowKit.Below.setCell' ?_ (by simp [go_sem]) _)))
        · obtain ⟨h1, h2, h3⟩ := h
          go_wp2_with fail
          go_ret
          exact Gives.mk (by rw [HF.out]; rfl) (by (repeat (first | exact Below.refl _ _ | refine RowKit.Below.past ?_ _ | refine RowKit.Below.alloc' ?_ _ | refine RowKit.Below.drew' ?_ | refine RowKit.Below.drewN' ?_ _ | refine RowKit.Below.setCell' ?_ (by simp [go_sem]) _)))
        · obtain ⟨h1, h2, h3, h4⟩ := h
          go_wp2_with fail
          go_ret
          exact Gives.mk (by rw [HF.out]; rfl) (by (repeat (first | exact Below.refl _ _ | refine RowKit.Below.past ?_ _ | refine RowKit.Below.alloc' ?_ _ | refine RowKit.Below.drew' ?_ | refine RowKit.Below.drewN' ?_ _ | refine RowKit.Below.setCell' ?_ (by simp [go_sem]) _)))
      · obtain rfl : k = n := by omega
        have HF := hid (show fewB l = true by
          unfold fewB
          refine decide_eq_true ⟨by rw [EN.out]; omega, fun x hx => ?_⟩
          obtain ⟨j, hj⟩ := List.mem_iff_getElem?.1 hx
          have hjl := (List.getElem?_eq_some_iff.1 hj).1
          have := HK.out j (by rw [← EN.out]; exact hjl)
          unfold dd at this
          rw [hj] at this
          exact this)
        go_wp2_with fail
        go_ret
        exact Gives.mk (by rw [HF.out]; rfl) (w.below_past _)
end Go.Proofs.Ytjihhpipdhhjkaa
