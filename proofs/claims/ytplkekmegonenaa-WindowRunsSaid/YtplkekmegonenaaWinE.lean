/-
  Layer 35: the ends of a list, by the document. No condition.
-/
import Derived.Test.YtplkekmegonenaaWinD
namespace Go.Proofs.Ytplkekmegonenaa
open Go.RowKit
def lowK (l : List Int) : Nat → Int | 0 => atL l 0 | k + 1 => min (lowK l k) (atL l k)
def highK (l : List Int) : Nat → Int | 0 => atL l 0 | k + 1 => max (highK l k) (atL l k)
def lowE (l : List Int) (n : Nat) : Int := if n = 0 then 0 else lowK l n
def highE (l : List Int) (n : Nat) : Int := if n = 0 then 0 else highK l n
def natW : Value → Nat | .int _ z => z.toNat | _ => 0
theorem Ends_any (A : Option Addr) (ca n : Nat) (l : List Int) (en : l.length = n) (h200 : n ≤ 200) (w : World) (hc : Cells w A (i64s l)) :
    Calls Try.prog 8 #[.slice A n ca] w (Gives (.tuple #[.int .i64 (lowE l n), .int .i64 (highE l n)]) w) := by
  have EN := hid en
  have HC := hid hc
  clear en hc
  rcases Nat.eq_zero_or_pos n with h0 | hpos
  · subst h0
    have L := hid (show lowE l 0 = 0 from rfl)
    have H := hid (show highE l 0 = 0 from rfl)
    rw [L.out, H.out]
    go_enter Try.func8, Try.ntmps8
    go_wp2
    go_ret2
    exact Gives.mk rfl (Below.refl _ _)
  · have L := hid (show lowE l n = lowK l n from if_neg (by omega))
    have H := hid (show highE l n = highK l n from if_neg (by omega))
    rw [L.out, H.out]
    obtain ⟨g, o, rfl, c0⟩ := i64_at HC.out (k := 0) (by rw [EN.out]; exact hpos)
    have E1 := hid (show lowK l 1 = atL l 0 from Int.min_self _)
    have E2 := hid (show highK l 1 = atL l 0 from Int.max_self _)
    have hne : ¬ n = 0 := by omega
    rw [Nat.add_zero] at c0
    clear L H
    go_enter Try.func8, Try.ntmps8
    go_wp2
    rw [← E1.out]
    go_loopw [4, 5, 6] (fun a b i wr => ∃ (k : Nat) (x : Past), i = .int .i64 k ∧ 1 ≤ k ∧ k ≤ n ∧ wr = w.past x ∧ a = .int .i64 (lowK l k) ∧ b = .int .i64 (highK l k)) (fun _ _ i _ => n - natW i)
    case atStart => exact ⟨1, _, rfl, by omega, by omega, World.past_refl w, rfl, by rw [E1.out, E2.out]⟩
    case round =>
      clear E1 E2 c0
      obtain ⟨k, x, rfl, h1, hk, rfl, rfl, rfl⟩ := hrel
      by_cases hlt : k < n
      · obtain ⟨g2, o2, eA, c1⟩ := i64_at (HC.out.past x) (k := k) (by rw [EN.out]; exact hlt)
        cases eA
        have L := hid (show lowK l (k + 1) = min (lowK l k) (atL l k) from rfl)
        have H := hid (show highK l (k + 1) = max (highK l k) (atL l k) from rfl)
        obtain ⟨v, ev⟩ : ∃ v, atL l k = v := ⟨_, rfl⟩
        obtain ⟨a, ea⟩ : ∃ a, lowK l k = a := ⟨_, rfl⟩
        obtain ⟨b, eb⟩ : ∃ b, highK l k = b := ⟨_, rfl⟩
        rw [ev] at L H c1
        rw [ea] at L ⊢
        rw [eb] at H ⊢
        clear ev ea eb
        have e2 : IntKind.i64.wrap ((k : Int) + 1) = (k : Int) + 1 := by rw [IntKind.wrap_i64]; omega
        by_cases hl : v < a
        · have L2 := hid (show lowK l (k + 1) = v by rw [L.out]; omega)
          by_cases hh : b < v
          · have H2 := hid (show highK l (k + 1) = v by rw [H.out]; omega)
            go_wp2
            go_roundw
            case rel => exact ⟨k + 1, _, by go_num, by omega, by omega, rfl, by rw [L2.out], by rw [H2.out]⟩
            case measure => simp [natW]; omega
          · have H2 := hid (show highK l (k + 1) = b by rw [H.out]; omega)
            go_wp2
            go_roundw
            case rel => exact ⟨k + 1, _, by go_num, by omega, by omega, rfl, by rw [L2.out], by rw [H2.out]⟩
            case measure => simp [natW]; omega
        · have L2 := hid (show lowK l (k + 1) = a by rw [L.out]; omega)
          by_cases hh : b < v
          · have H2 := hid (show highK l (k + 1) = v by rw [H.out]; omega)
            go_wp2
            go_roundw
            case rel => exact ⟨k + 1, _, by go_num, by omega, by omega, rfl, by rw [L2.out], by rw [H2.out]⟩
            case measure => simp [natW]; omega
          · have H2 := hid (show highK l (k + 1) = b by rw [H.out]; omega)
            go_wp2
            go_roundw
            case rel => exact ⟨k + 1, _, by go_num, by omega, by omega, rfl, by rw [L2.out], by rw [H2.out]⟩
            case measure => simp [natW]; omega
      · obtain rfl : k = n := by omega
        go_wp2
        go_ret2
        exact Gives.mk rfl (World.below_past _ _)
end Go.Proofs.Ytplkekmegonenaa
