/-
  Layer 33: the document's set. No condition but that ends are from -200 up to 200.
-/
import Derived.Test.YtjihhpipdhhjkaaSpN
import Derived.Test.YtjihhpipdhhjkaaRowPut
namespace Go.Proofs.Ytjihhpipdhhjkaa
open Go.RowKit
structure RfAt (w : World) (d : Nat) (f : Int → Bool) : Prop where
  ex : ∃ cs, Rec w d 37 cs ∧ cs.size = 400 ∧ ∀ i, i < 400 → cs[i]? = some (.bool (f ((i : Int) - 200)))
  out : ∀ x, f x = true → -200 ≤ x ∧ x < 200
theorem RfAt.far {w w' : World} {d : Nat} {f : Int → Bool} (h : RfAt w d f) (hb : Below w.heap.size w w') : RfAt w' d f := by
  obtain ⟨cs, h1, h2⟩ := h.ex
  exact ⟨⟨cs, h1.below hb (Nat.le_refl _), h2⟩, h.out⟩
theorem RfAt.kept {w w' : World} {d b : Nat} {f : Int → Bool} (h : RfAt w d f) (hk : Kept (fun k => k = b) w w') (hn : d ≠ b) : RfAt w' d f := by
  obtain ⟨cs, h1, h2⟩ := h.ex
  exact ⟨⟨cs, h1.kept hk hn, h2⟩, h.out⟩
theorem RfAt.lt {w : World} {d : Nat} {f : Int → Bool} (h : RfAt w d f) : d < w.heap.size := by
  obtain ⟨cs, h1, h2⟩ := h.ex
  exact Rec.lt h1
theorem RfAt.cell {w : World} {d : Nat} {f : Int → Bool} (h : RfAt w d f) {x : Int} (h1 : -200 ≤ x) (h2 : x < 200) : w.cell? ⟨d, (x + 200).toNat, none⟩ = some (.bool (f x)) := by
  obtain ⟨cs, g1, g2, g3⟩ := h.ex
  rw [Rec.cell g1, g3 _ (by omega)]
  congr 3
  omega
theorem RfAt.frozen {w : World} {d : Nat} {f : Int → Bool} (h : RfAt w d f) (i : Nat) : w.frozen? ⟨d, i, none⟩ = false := by
  obtain ⟨cs, g1, g2, g3⟩ := h.ex
  exact Rec.frozen g1 i
def setF (f : Int → Bool) (y : Int) (b : Bool) (x : Int) : Bool := if x = y then b else f x
theorem RfAt.set {w : World} {d : Nat} {f : Int → Bool} (h : RfAt w d f) {y : Int} (h1 : -200 ≤ y) (h2 : y < 200) (b : Bool) : RfAt (w.setCell ⟨d, (y + 200).toNat, none⟩ (.bool b)) d (setF f y b) := by
  obtain ⟨cs, g1, g2, g3⟩ := h.ex
  refine ⟨⟨_, g1.set _ (.bool b), by simpa using g2, fun i hi => ?_⟩, fun x hx => ?_⟩
  · rw [Array.getElem?_setIfInBounds]
    unfold setF
    by_cases e : (y + 200).toNat = i
    · rw [if_pos e, if_pos (by omega), if_pos (by omega)]
    · rw [if_neg e, if_neg (by omega)]; exact g3 i hi
  · unfold setF at hx
    split at hx
    · omega
    · exact h.out x hx
def putF (f : Int → Bool) (low high : Int) (b : Bool) (x : Int) : Bool := if low ≤ x ∧ x < high then b else f x
theorem RfAt.congr {w : World} {d : Nat} {f g : Int → Bool} (h : RfAt w d f) (e : ∀ x, f x = g x) : RfAt w d g := by
  have : f = g := funext e
  subst this; exact h
def intZ : Value → Int | .int _ z => z | _ => 0
set_option maxHeartbeats 1000000 in
theorem put_any {w : World} {d : Nat} {f : Int → Bool} (h : RfAt w d f) (low high : Int) (h1 : -200 ≤ low) (h2 : high ≤ 200) (hlt : low < high) (b : Bool) :
    Calls Try.prog 29 #[.pointer (some ⟨d, 0, none⟩), .int .i64 low, .int .i64 high, .bool b] w (fun e w' => e = .returned (.tuple #[]) ∧ RfAt w' d (putF f low high b) ∧ Kept (fun k => k = d) w w') := by
  have HH := hid h
  clear h
  go_enter Try.func29, Try.ntmps29
  go_wp2_with fail
  go_loopw [8] (fun i wr => ∃ y : Int, i = .int .i64 y ∧ low ≤ y ∧ y ≤ high ∧ Hid (RfAt wr d (putF f low y b)) ∧ Hid (Kept (fun k => k = d) w wr)) (fun i _ => (high - intZ i).toNat)
  case atStart => exact ⟨low, rfl, Int.le_refl _, by omega, hid (HH.out.congr fun x => by unfold putF; rw [if_neg (by omega)]), hid (Kept.refl _ _)⟩
  case round =>
    obtain ⟨y, rfl, hy1, hy2, HR, HK⟩ := hrel
    by_cases hy : y < high
    · have c0 := HR.out.cell (x := y) (by omega) (by omega)
      have f0 := HR.out.frozen (y + 200).toNat
      have l0 := HR.out.lt
      have HS := hid (HR.out.set (y := y) (by omega) (by omega) b)
      have HN := hid (HS.out.congr (g := putF f low (y + 1) b) fun x => by
        unfold setF putF
        by_cases e : x = y
        · rw [if_pos e, if_pos (by omega)]
        · rw [if_neg e]
          by_cases e2 : low ≤ x ∧ x < y
          · rw [if_pos e2, if_pos (by omega)]
          · rw [if_neg e2, if_neg (by omega)])
      have HK2 := hid (HK.out.setCell (p := ⟨d, (y + 200).toNat, none⟩) (.inr rfl) (.bool b))
      go_wp2_with fail
      go_roundw
      case rel => exact ⟨y + 1, rfl, by omega, by omega, HN, HK2⟩
      case measure => simp [intZ]; omega
    · obtain rfl : y = high := by omega
      go_wp2_with fail
      go_end0
      exact ⟨rfl, HR.out, HK.out⟩
def addF33 (f : Int → Bool) (low high : Int) (b : Bool) (x : Int) : Bool := if low < high then putF f low high b x else f x
theorem RAdd_any {w : World} {d : Nat} {f : Int → Bool} (h : RfAt w d f) (low high : Int) (h1 : -200 ≤ low) (h2 : high ≤ 200) :
    Calls Try.prog 12 #[.pointer (some ⟨d, 0, none⟩), .int .i64 low, .int .i64 high] w (fun e w' => e = .returned (.bool (ltV low high)) ∧ RfAt w' d (addF33 f low high true) ∧ Kept (fun k => k = d) w w') := by
  have HH := hid h
  by_cases hlt : low < high
  · have HP := hid (put_any h low high h1 h2 hlt true)
    have hl : ltV low high = true := by unfold ltV; simpa using hlt
    have HE := hid (fun x => (show addF33 f low high true x = putF f low high true x by unfold addF33; rw [if_pos hlt]))
    rw [hl]
    clear h hl
    go_enter Try.func12, Try.ntmps12
    go_wp2_with (go_at_call 29; refine HP.out.mono ?_; rintro _ w2 ⟨rfl, g2, k2⟩; have HR := hid (g2.congr fun x => (HE.out x).symm); have HK := hid k2; clear g2 k2)
    go_ret
    exact ⟨rfl, HR.out, HK.out⟩
  · have hl : ltV low high = false := by unfold ltV; simpa using hlt
    have HE := hid (h.congr (g := addF33 f low high true) fun x => by unfold addF33; rw [if_neg hlt])
    rw [hl]
    clear h hl
    go_enter Try.func12, Try.ntmps12
    go_wp2
    go_ret
    exact ⟨rfl, HE.out, Kept.refl _ _⟩
theorem RCut_any {w : World} {d : Nat} {f : Int → Bool} (h : RfAt w d f) (low high : Int) (h1 : -200 ≤ low) (h2 : high ≤ 200) :
    Calls Try.prog 14 #[.pointer (some ⟨d, 0, none⟩), .int .i64 low, .int .i64 high] w (fun e w' => e = .returned (.bool (ltV low high)) ∧ RfAt w' d (addF33 f low high false) ∧ Kept (fun k => k = d) w w') := by
  have HH := hid h
  by_cases hlt : low < high
  · have HP := hid (put_any h low high h1 h2 hlt false)
    have hl : ltV low high = true := by unfold ltV; simpa using hlt
    have HE := hid (fun x => (show addF33 f low high false x = putF f low high false x by unfold addF33; rw [if_pos hlt]))
    rw [hl]
    clear h hl
    go_enter Try.func14, Try.ntmps14
    go_wp2_with (go_at_call 29; refine HP.out.mono ?_; rintro _ w2 ⟨rfl, g2, k2⟩; have HR := hid (g2.congr fun x => (HE.out x).symm); have HK := hid k2; clear g2 k2)
    go_ret
    exact ⟨rfl, HR.out, HK.out⟩
  · have hl : ltV low high = false := by unfold ltV; simpa using hlt
    have HE := hid (h.congr (g := addF33 f low high false) fun x => by unfold addF33; rw [if_neg hlt])
    rw [hl]
    clear h hl
    go_enter Try.func14, Try.ntmps14
    go_wp2
    go_ret
    exact ⟨rfl, HE.out, Kept.refl _ _⟩
theorem RHas_any {w : World} {d : Nat} {f : Int → Bool} (h : RfAt w d f) (x : Int) (hx : I64 x) :
    Calls Try.prog 19 #[.pointer (some ⟨d, 0, none⟩), .int .i64 x] w (fun e w' => e = .returned (.bool (f x)) ∧ w' = w) := by
  have hx1 := hx.1
  have hx2 := hx.2
  by_cases h1 : -200 ≤ x
  · by_cases h2 : x < 200
    · have c0 := h.cell h1 h2
      obtain ⟨z, ez⟩ : ∃ z, f x = z := ⟨_, rfl⟩
      rw [ez] at c0 ⊢
      clear ez h hx
      go_enter Try.func19, Try.ntmps19
      go_wp2
      go_ret
      exact ⟨rfl, rfl⟩
    · have e : f x = false := by
        cases g : f x with
        | false => rfl
        | true => have := h.out x g; omega
      rw [e]
      clear h e hx
      go_enter Try.func19, Try.ntmps19
      go_wp2
      go_ret
      exact ⟨rfl, rfl⟩
  · have e : f x = false := by
      cases g : f x with
      | false => rfl
      | true => have := h.out x g; omega
    rw [e]
    clear h e hx
    go_enter Try.func19, Try.ntmps19
    go_wp2
    go_ret
    exact ⟨rfl, rfl⟩
end Go.Proofs.Ytjihhpipdhhjkaa
