/-
  Rows that list the table of math/bits: what the condition gives the walk, the witness, and the card. No condition.
-/
import Derived.Test.YtngokihncjkiaaaDoorIdset
import Derived.Test.YtngokihncjkiaaaDoorTie
import Derived.Test.YtngokihncjkiaaaDoorCards
import Derived.ProofKit
import Derived.LaidMore
import Derived.OpenShut
import Derived.Stop.Joined
import Derived.SevenTiedAt
namespace Go.Proofs.YtngokihncjkiaaaDoor
open Go Go.ChangeShapes Go.WideShapes Go.ChangeAt Go.WideMaps Go.WideElems Go.RowKit
theorem gTab : Tryd.prog.globalNamed "math/bits.deBruijn64tab" = some 0 := by kernel_rfl
theorem tTab : (Tryd.prog.globals[0]?).map (·.type) = some 115 := by kernel_rfl
theorem cTab : Tryd.prog.cellsOf 5 = 1 := by kernel_rfl
abbrev laidT {H : Type} : List (String × DataW H) := [("math/bits.deBruijn64tab", Rows.laid_math_bits_deBruijn64tab)]
theorem tab_list {H : Type} : (Rows.laid_math_bits_deBruijn64tab : DataW H) = .agg (Lib.deBruijn64tab.map fun n : Nat => .lit (.int .u8 (n : Int))) := by rfl
theorem tz_of_laid {W : World} (h : laidMetH Tryd.prog laidT W) : Tz W := by
  rw [MakeChecks.laidMetH_plain _ _ _ (by kernel_rfl)] at h
  obtain ⟨ps, ⟨g0, t0, cs0, f0, p0, q0, hg0, ht0, hv0, hd0, _, _⟩, _, _⟩ := h
  obtain rfl := Option.some.inj (gTab.symm.trans hg0)
  obtain rfl := Option.some.inj (tTab.symm.trans ht0)
  obtain ⟨xs, m1, rfl, hx1, hlen, hn, hel⟩ := DataW.trod_array Tryd.underlying115 hd0
  simp only [Prod.mk.injEq] at hx1
  have hL := hx1.1
  rw [tab_list] at hL
  simp only [DataW.agg.injEq] at hL
  intro j hj
  have hj64 : j < 64 := hj
  have hxj : j < xs.length := by omega
  have he := hel j hj64
  rw [cTab, Nat.mul_one] at he
  obtain ⟨k, e1, e2, _⟩ := DataW.trod_int Tryd.underlying5 (show DataW.trod _ Tryd.prog W 0 _ false m1 5 _ = some xs[j] by rw [he]; exact List.getElem?_eq_getElem hxj)
  have h1 : (Lib.deBruijn64tab.map fun n : Nat => (DataW.lit (.int .u8 (n : Int)) : DataW Unit))[j]? = (xs.map (·.1))[j]? := by rw [hL]
  rw [List.getElem?_map, List.getElem?_map, List.getElem?_eq_getElem hxj, List.getElem?_eq_getElem hj] at h1
  simp only [Option.map_some, Option.some.injEq] at h1
  rw [e2] at h1
  simp only [DataW.lit.injEq, Lit.int.injEq] at h1
  have h2 := World.var?_cell hg0 hv0 j
  rw [h2]
  have h3 : cs0[j]? = cs0.toList[j]? := by simp
  rw [h3]
  have h4 : ((cs0.toList.drop j).take 1)[0]? = some (.int .u8 k) := by rw [e1]; rfl
  rw [List.getElem?_take, if_pos (by omega), List.getElem?_drop, Nat.add_zero] at h4
  rw [h4, ← h1.2]
  simp [List.getD, List.getElem?_eq_getElem hj]
theorem door_met (os : Os) (args : Array Value) : laidMetH Tryd.prog laidT ((World.doorLaid Tryd.prog 14 os).forCall (fun _ _ => 0) ⟨#[], args, []⟩).memory :=
  laidMetH_of_parts3 (fuel := 8) (laidMet_of_run' 8 (by kernel_rfl) (by kernel_rfl)) (by kernel_rfl) (by kernel_rfl)
end Go.Proofs.YtngokihncjkiaaaDoor
