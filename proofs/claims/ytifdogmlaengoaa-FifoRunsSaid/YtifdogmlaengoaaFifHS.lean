/-
  Layer 05: a queue of strings that stands alone. No condition.
-/
import Derived.Test.YtifdogmlaengoaaFifGS
namespace Go.Proofs.Ytifdogmlaengoaa
open Go.RowKit
/-! A queue that stands alone. -/
def QZS (B : Nat) (w0 W : World) (b : Nat) (most tk : Int) (L : List (Int × ByteArray)) : Prop := B ≤ w0.heap.size ∧ Below B w0 W ∧ ∃ F, QAS B W b F most tk L
theorem QZS.size {B : Nat} {w0 W : World} {b : Nat} {most tk : Int} {L : List (Int × ByteArray)} (h : QZS B w0 W b most tk L) : B ≤ W.heap.size := Nat.le_trans h.1 h.2.1.size
theorem QZS.far {B : Nat} {w0 W W' : World} {b : Nat} {most tk : Int} {L : List (Int × ByteArray)} (h : QZS B w0 W b most tk L) (hb : Below W.heap.size W W') : QZS B w0 W' b most tk L := by
  obtain ⟨h1, h2, F, h3⟩ := h
  exact ⟨h1, h2.trans (hb.mono (Nat.le_trans h1 h2.size)), F, h3.far hb⟩
theorem QZS.act {B : Nat} {w0 W : World} {b : Nat} {most tk tk' : Int} {L L' : List (Int × ByteArray)} (h : QZS B w0 W b most tk L) {fn : FuncId} {args : Array Value} {r : Value}
    (hc : ∀ F, QAS B W b F most tk L → Calls Try.prog fn args W (fun e w' => e = .returned r ∧ QRS B b F most tk' L' W w')) : Calls Try.prog fn args W (fun e w' => e = .returned r ∧ QZS B w0 w' b most tk' L') := by
  obtain ⟨h1, h2, F, h3⟩ := h
  refine (hc F h3).mono ?_
  rintro _ w' ⟨rfl, F', g1, g2, g3⟩
  exact ⟨rfl, h1, g3.to_below h2 (Nat.le_trans h1 h2.size) (fun k hk => (h3.foot k hk).1), F', g1⟩
theorem ZNewS_any (most : Int) (w : World) :
    Calls Try.prog 21 #[.int .i64 most] w (fun e w' => ∃ b, e = .returned (.pointer (some ⟨b, 0, none⟩)) ∧ QZS w.heap.size w w' b (mostA most) 0 []) :=
  (QNewS_any w.heap.size most w (Nat.le_refl _)).mono fun _ _ ⟨b, F, h1, h2, _, h4⟩ => ⟨b, h1, Nat.le_refl _, h4, F, h2⟩
theorem QZS.push {B : Nat} {w0 W : World} {b : Nat} {most tk : Int} {L : List (Int × ByteArray)} (h : QZS B w0 W b most tk L) (ht1 : tk ≤ 1000000) (hr : (L.length : Int) < most) (v : ByteArray) :
    Calls Try.prog 22 #[.pointer (some ⟨b, 0, none⟩), .string v] W (fun e w' => e = .returned (.tuple #[.int .i64 (tk + 1), .int .i64 0]) ∧ QZS B w0 w' b most (tk + 1) (L ++ [(tk + 1, v)])) :=
  h.act fun F hF => QPushS_any hF h.size ht1 hr v
theorem QZS.pop {B : Nat} {w0 W : World} {b : Nat} {most tk : Int} {x : Int × ByteArray} {L : List (Int × ByteArray)} (h : QZS B w0 W b most tk (x :: L)) (ht1 : tk ≤ 1000000) :
    Calls Try.prog 24 #[.pointer (some ⟨b, 0, none⟩)] W (fun e w' => e = .returned (.tuple #[.string x.2, .bool true]) ∧ QZS B w0 w' b most tk L) :=
  h.act fun F hF => QPopS_any hF h.size ht1
theorem QZS.remove {B : Nat} {w0 W : World} {b : Nat} {most tk : Int} {L : List (Int × ByteArray)} (h : QZS B w0 W b most tk L) (ht1 : tk ≤ 1000000) {i : Nat} {x : Int × ByteArray} (hx : L[i]? = some x) :
    Calls Try.prog 23 #[.pointer (some ⟨b, 0, none⟩), .int .i64 x.1] W (fun e w' => e = .returned (.tuple #[.string x.2, .bool true]) ∧ QZS B w0 w' b most tk (L.eraseIdx i)) :=
  h.act fun F hF => QRemoveS_any hF h.size ht1 hx
theorem QZS.len {B : Nat} {w0 W : World} {b : Nat} {most tk : Int} {L : List (Int × ByteArray)} (h : QZS B w0 W b most tk L) :
    Calls Try.prog 25 #[.pointer (some ⟨b, 0, none⟩)] W (Gives (.int .i64 (L.length : Int)) W) := by
  obtain ⟨h1, h2, F, h3⟩ := h
  exact QLenS_any h3

end Go.Proofs.Ytifdogmlaengoaa
