/-
  DERIVED. GIVEN WITH THE SEED: THE CARDS: each row of YthlogfclgakhkaaDoorRows.lean that lists a variable, with what it lists TIED to the program's text (the seventh form; the later family's looks); each row that meets fmt, with fmt's text TOLD by the authors' own Lean function (tested against real Go, not proved from fmt's source: count such statements apart). THE CARD IS WHAT COUNTS. Prove the row's statement (the work); the ties are given (YthlogfclgakhkaaDoorTie.lean); close each card by the builder's one call (the guide's Derived/Test/ToyasCard.lean, 'card_holds'). Laid BY PROGRAM, IN A SANDBOX (cutbox-door.mjs). By AI agents, Wed Nov 11 2026. No macro, syntax, notation, axiom, sorry.
-/
import Derived.Test.YthlogfclgakhkaaDoorRows
import GoSem.ClaimSeven
namespace Go.Proofs.YthlogfclgakhkaaDoor
namespace Rows

/-- THE TIED CARD OF 'forelocklaw21.BanLeast'. -/
def banLeastCard : Claim7 := { stood := { row := banLeastRow, standIns := [], harness := (true, "b8838757f289ae2d759b5246ecff9cf1d155867d26eb15dc01393b77f414ed34"), looks := false }, kinds := [], alts := [], laidByText := true, laidKinds := [.data], laidTests := true, laidLooks := .later }
def BanLeastCardSaid : Prop := Claim7.holds Tryd.pinned (.plain (OpenSpec.ofChange banLeastSpec)) banLeastCard

/-- THE SECOND FORM's CARD OF 'forelocklaw21.BanLeast'. -/
def banLeastUptoCard : Claim7 := { stood := { row := banLeastUptoRow, standIns := [], harness := (true, "b8838757f289ae2d759b5246ecff9cf1d155867d26eb15dc01393b77f414ed34"), looks := false }, kinds := [], alts := [], laidByText := true, laidKinds := [.data], laidTests := true, laidLooks := .later }
def BanLeastUptoCardSaid : Prop := Claim7.holds Tryd.pinned (.plain (OpenSpec.upto banLeastSpec)) banLeastUptoCard
end Rows
end Go.Proofs.YthlogfclgakhkaaDoor
