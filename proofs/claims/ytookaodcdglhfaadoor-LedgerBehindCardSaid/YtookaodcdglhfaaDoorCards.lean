/-
  DERIVED. GIVEN WITH THE SEED: THE CARDS: each row of YtookaodcdglhfaaDoorRows.lean that lists a variable, with what it lists TIED to the program's text (the seventh form; the later family's looks); each row that meets fmt, with fmt's text TOLD by the authors' own Lean function (tested against real Go, not proved from fmt's source: count such statements apart). THE CARD IS WHAT COUNTS. Prove the row's statement (the work); the ties are given (YtookaodcdglhfaaDoorTie.lean); close each card by the builder's one call (the guide's Derived/Test/ToyasCard.lean, 'card_holds'). Laid BY PROGRAM, IN A SANDBOX (cutbox-door.mjs). By AI agents, Wed Nov 11 2026. No macro, syntax, notation, axiom, sorry.
-/
import Derived.Test.YtookaodcdglhfaaDoorRows
import GoSem.ClaimSeven
namespace Go.Proofs.YtookaodcdglhfaaDoor
namespace Rows

/-- THE TIED CARD OF 'forelocklaw18.LedgerBehind'. -/
def ledgerBehindCard : Claim7 := { stood := { row := ledgerBehindRow, standIns := [], harness := (true, "0c84db154156fd26c721cf02b4e8e3899cfac5523dbf1c0497048ab70cd885d1"), looks := false }, kinds := [], alts := [], laidByText := true, laidKinds := [.data], laidTests := true, laidLooks := .later }
def LedgerBehindCardSaid : Prop := Claim7.holds Tryd.pinned (.plain (OpenSpec.ofChange ledgerBehindSpec)) ledgerBehindCard

/-- THE TIED CARD OF 'forelocklaw18.LedgerRuns'. -/
def ledgerRunsCard : Claim7 := { stood := { row := ledgerRunsRow, standIns := [], harness := (true, "0c84db154156fd26c721cf02b4e8e3899cfac5523dbf1c0497048ab70cd885d1"), looks := false }, kinds := [], alts := [], laidByText := true, laidKinds := [.data], laidTests := true, laidLooks := .later }
def LedgerRunsCardSaid : Prop := Claim7.holds Tryd.pinned (.plain (OpenSpec.ofChange ledgerRunsSpec)) ledgerRunsCard

/-- THE TIED CARD OF 'forelocklaw18.LedgerFloor'. -/
def ledgerFloorCard : Claim7 := { stood := { row := ledgerFloorRow, standIns := [], harness := (true, "0c84db154156fd26c721cf02b4e8e3899cfac5523dbf1c0497048ab70cd885d1"), looks := false }, kinds := [], alts := [], laidByText := true, laidKinds := [.data], laidTests := true, laidLooks := .later }
def LedgerFloorCardSaid : Prop := Claim7.holds Tryd.pinned (.plain (OpenSpec.ofChange ledgerFloorSpec)) ledgerFloorCard

/-- THE SECOND FORM's CARD OF 'forelocklaw18.LedgerBehind'. -/
def ledgerBehindUptoCard : Claim7 := { stood := { row := ledgerBehindUptoRow, standIns := [], harness := (true, "0c84db154156fd26c721cf02b4e8e3899cfac5523dbf1c0497048ab70cd885d1"), looks := false }, kinds := [], alts := [], laidByText := true, laidKinds := [.data], laidTests := true, laidLooks := .later }
def LedgerBehindUptoCardSaid : Prop := Claim7.holds Tryd.pinned (.plain (OpenSpec.upto ledgerBehindSpec)) ledgerBehindUptoCard

/-- THE SECOND FORM's CARD OF 'forelocklaw18.LedgerRuns'. -/
def ledgerRunsUptoCard : Claim7 := { stood := { row := ledgerRunsUptoRow, standIns := [], harness := (true, "0c84db154156fd26c721cf02b4e8e3899cfac5523dbf1c0497048ab70cd885d1"), looks := false }, kinds := [], alts := [], laidByText := true, laidKinds := [.data], laidTests := true, laidLooks := .later }
def LedgerRunsUptoCardSaid : Prop := Claim7.holds Tryd.pinned (.plain (OpenSpec.upto ledgerRunsSpec)) ledgerRunsUptoCard

/-- THE SECOND FORM's CARD OF 'forelocklaw18.LedgerFloor'. -/
def ledgerFloorUptoCard : Claim7 := { stood := { row := ledgerFloorUptoRow, standIns := [], harness := (true, "0c84db154156fd26c721cf02b4e8e3899cfac5523dbf1c0497048ab70cd885d1"), looks := false }, kinds := [], alts := [], laidByText := true, laidKinds := [.data], laidTests := true, laidLooks := .later }
def LedgerFloorUptoCardSaid : Prop := Claim7.holds Tryd.pinned (.plain (OpenSpec.upto ledgerFloorSpec)) ledgerFloorUptoCard
end Rows
end Go.Proofs.YtookaodcdglhfaaDoor
