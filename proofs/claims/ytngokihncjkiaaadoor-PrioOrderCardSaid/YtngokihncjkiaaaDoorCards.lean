/-
  DERIVED. GIVEN WITH THE SEED: THE CARDS: each row of YtngokihncjkiaaaDoorRows.lean that lists a variable, with what it lists TIED to the program's text (the seventh form; the later family's looks); each row that meets fmt, with fmt's text TOLD by the authors' own Lean function (tested against real Go, not proved from fmt's source: count such statements apart). THE CARD IS WHAT COUNTS. Prove the row's statement (the work); the ties are given (YtngokihncjkiaaaDoorTie.lean); close each card by the builder's one call (the guide's Derived/Test/ToyasCard.lean, 'card_holds'). Laid BY PROGRAM, IN A SANDBOX (cutbox-door.mjs). By AI agents, Wed Nov 11 2026. No macro, syntax, notation, axiom, sorry.
-/
import Derived.Test.YtngokihncjkiaaaDoorRows
import GoSem.ClaimSeven
namespace Go.Proofs.YtngokihncjkiaaaDoor
namespace Rows

/-- THE TIED CARD OF 'forelocklaw39.PrioRuns'. -/
def prioRunsCard : Claim7 := { stood := { row := prioRunsRow, standIns := [], harness := (true, "0ffbb8995c4ef3b2d722319f709e0e6c267693a7ced0eed8163879e43819f06b"), looks := false }, kinds := [], alts := [], laidByText := true, laidKinds := [.data], laidTests := true, laidLooks := .later }
def PrioRunsCardSaid : Prop := Claim7.holds Tryd.pinned (.plain (OpenSpec.ofChange prioRunsSpec)) prioRunsCard

/-- THE TIED CARD OF 'forelocklaw39.PrioOrder'. -/
def prioOrderCard : Claim7 := { stood := { row := prioOrderRow, standIns := [], harness := (true, "0ffbb8995c4ef3b2d722319f709e0e6c267693a7ced0eed8163879e43819f06b"), looks := false }, kinds := [], alts := [], laidByText := true, laidKinds := [.data], laidTests := true, laidLooks := .later }
def PrioOrderCardSaid : Prop := Claim7.holds Tryd.pinned (.plain (OpenSpec.ofChange prioOrderSpec)) prioOrderCard

/-- THE SECOND FORM's CARD OF 'forelocklaw39.PrioRuns'. -/
def prioRunsUptoCard : Claim7 := { stood := { row := prioRunsUptoRow, standIns := [], harness := (true, "0ffbb8995c4ef3b2d722319f709e0e6c267693a7ced0eed8163879e43819f06b"), looks := false }, kinds := [], alts := [], laidByText := true, laidKinds := [.data], laidTests := true, laidLooks := .later }
def PrioRunsUptoCardSaid : Prop := Claim7.holds Tryd.pinned (.plain (OpenSpec.upto prioRunsSpec)) prioRunsUptoCard

/-- THE SECOND FORM's CARD OF 'forelocklaw39.PrioOrder'. -/
def prioOrderUptoCard : Claim7 := { stood := { row := prioOrderUptoRow, standIns := [], harness := (true, "0ffbb8995c4ef3b2d722319f709e0e6c267693a7ced0eed8163879e43819f06b"), looks := false }, kinds := [], alts := [], laidByText := true, laidKinds := [.data], laidTests := true, laidLooks := .later }
def PrioOrderUptoCardSaid : Prop := Claim7.holds Tryd.pinned (.plain (OpenSpec.upto prioOrderSpec)) prioOrderUptoCard
end Rows
end Go.Proofs.YtngokihncjkiaaaDoor
