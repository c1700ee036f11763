/-
  No cell of these rows narrows 'for every input' (looked for: loops, veiled, ifaces, maps, wideKeys, modest, calm, conditions, laid).
  DERIVED. THE GIVEN ROWS OF THIS SEAT. 3 by the template 'for every input the law returns true; each argument reads behind the call as it read before'; 0 by the template 'total and deterministic' (their statements: YtccfamagckgamaaTotals.lean).
  GIVEN WITH THE SEED: the statements are not yours to turn. If you find one false, say at which input.
  Laid BY PROGRAM, IN A SANDBOX (cutbox-rows.mjs): the forced cells as the released guide's own fill.sh prints them over the translation 4f6dcfa936c7a9d3… (all of the seat's roots in one cut). By AI agents, Wed Nov 11 2026. No macro, syntax, notation, axiom, sorry.
-/
import Derived.Test.YtccfamagckgamaaChecked
import GoSem.Claim
import GoSem.ClaimJoined
import GoSem.ClaimMapViews
import Derived.JoinedTies
import Derived.KernelRfl
namespace Go.Proofs.Ytccfamagckgamaa
/- THE CELL 'sum', in the pinned program and in every row, IS THE sha256 OF THE DUMP (.gsa) THAT YtccfamagckgamaaProg.lean LOADS. Nothing in Lean hashes anything: it is a label: what it is worth is what the hold of that sum in a sandbox is worth. -/
noncomputable def Try.pinned : Pinned := { name := "ytccfamagckgamaa", sum := "4f6dcfa936c7a9d3acbbd7968e8a53d4c9c1d4e9cf62b189f04d450b126c0837", checked := Try.checked }
namespace Rows
def none {H : Type} : Left H := { results := [], args := [] }

/-- 'forelocklaw34.HistBelow': WHATEVER THE INPUT: true; the input reads as it did. -/
def histBelowSpec : ChangeSpec := { name := "histBelow", fn := fun _ => fun
  | [d1, d2, d3] => { results := [.lit (.bool true)], args := [d1, d2, d3] }
  | _ => none }
def histBelowRow : OpenClaim := { program := "ytccfamagckgamaa", sum := "4f6dcfa936c7a9d3acbbd7968e8a53d4c9c1d4e9cf62b189f04d450b126c0837", func := "forelock/forelocklaw34.HistBelow", spec := "histBelow", inPlace := ["math/bits.Add64"], apart := false }
def HistBelowSaid : Prop := histBelowRow.holds Try.pinned (OpenSpec.ofChange histBelowSpec)

/-- ITS FALSE NEIGHBOUR: 'it returns false'. Refute it at one input. -/
def histBelowWrong : ChangeSpec := { name := "histBelow", fn := fun _ => fun
  | [d1, d2, d3] => { results := [.lit (.bool false)], args := [d1, d2, d3] }
  | _ => none }
def HistBelowWrongFalsely : Prop := histBelowRow.holds Try.pinned (OpenSpec.ofChange histBelowWrong)

/-- 'forelocklaw34.HistRuns': WHATEVER THE INPUT: true; the input reads as it did. -/
def histRunsSpec : ChangeSpec := { name := "histRuns", fn := fun _ => fun
  | [d1, d2, d3] => { results := [.lit (.bool true)], args := [d1, d2, d3] }
  | _ => none }
def histRunsRow : OpenClaim := { program := "ytccfamagckgamaa", sum := "4f6dcfa936c7a9d3acbbd7968e8a53d4c9c1d4e9cf62b189f04d450b126c0837", func := "forelock/forelocklaw34.HistRuns", spec := "histRuns", inPlace := ["math/bits.Add64"], unfollowed := true, recurses := true, apart := false }
def HistRunsSaid : Prop := histRunsRow.holds Try.pinned (OpenSpec.ofChange histRunsSpec)

/-- ITS FALSE NEIGHBOUR: 'it returns false'. Refute it at one input. -/
def histRunsWrong : ChangeSpec := { name := "histRuns", fn := fun _ => fun
  | [d1, d2, d3] => { results := [.lit (.bool false)], args := [d1, d2, d3] }
  | _ => none }
def HistRunsWrongFalsely : Prop := histRunsRow.holds Try.pinned (OpenSpec.ofChange histRunsWrong)

/-- 'forelocklaw34.HistJoins': WHATEVER THE INPUT: true; the input reads as it did. -/
def histJoinsSpec : ChangeSpec := { name := "histJoins", fn := fun _ => fun
  | [d1, d2, d3] => { results := [.lit (.bool true)], args := [d1, d2, d3] }
  | _ => none }
def histJoinsRow : OpenClaim := { program := "ytccfamagckgamaa", sum := "4f6dcfa936c7a9d3acbbd7968e8a53d4c9c1d4e9cf62b189f04d450b126c0837", func := "forelock/forelocklaw34.HistJoins", spec := "histJoins", inPlace := ["math/bits.Add64"], unfollowed := true, recurses := true, apart := false }
def HistJoinsSaid : Prop := histJoinsRow.holds Try.pinned (OpenSpec.ofChange histJoinsSpec)

/-- ITS FALSE NEIGHBOUR: 'it returns false'. Refute it at one input. -/
def histJoinsWrong : ChangeSpec := { name := "histJoins", fn := fun _ => fun
  | [d1, d2, d3] => { results := [.lit (.bool false)], args := [d1, d2, d3] }
  | _ => none }
def HistJoinsWrongFalsely : Prop := histJoinsRow.holds Try.pinned (OpenSpec.ofChange histJoinsWrong)

/- THE SECOND FORM. 'bulk': how many values and letters a reading holds, each counted each time it is reached (what is shared counts as often as it is met; a slice's spare places count too). A statement '..UptoSaid' is the law's where the arguments, and the package variables that the reading takes, are together of bulk at most 1048576: NARROWER than '..Said'. Prove '..Said' where nothing that the law and all that it calls make is longer than what came in: it says more and counts as full. Else prove '..UptoSaid'. A law counts once. -/
mutual
def uptoBulk {H : Type} : DataW H → Nat
  | .lit (.string bytes) => bytes.length + 1
  | .lit _ => 1
  | .nil => 1
  | .ptr d => uptoBulk d + 1
  | .slice elems spare => uptoBulkAll elems + uptoBulkAll spare + 1
  | .agg parts => uptoBulkAll parts + 1
  | .iface _ d => uptoBulk d + 1
  | .map entries => uptoBulkEntries entries + 1
  | .held _ => 1
def uptoBulkAll {H : Type} : List (DataW H) → Nat
  | [] => 0
  | d :: r => uptoBulk d + uptoBulkAll r
def uptoBulkEntries {H : Type} : List (Lit × DataW H) → Nat
  | [] => 0
  | x :: r => uptoBulkEntry x + uptoBulkEntries r
def uptoBulkEntry {H : Type} : Lit × DataW H → Nat
  | (.string bytes, d) => bytes.length + uptoBulk d + 1
  | (_, d) => uptoBulk d + 1
 end
def uptoSmall : (H : Type) → List (DataW H) → Bool := fun _ ds => decide (uptoBulkAll ds ≤ 1048576)
def OpenSpec.upto (s : _root_.Go.ChangeSpec) : _root_.Go.OpenSpec := { _root_.Go.OpenSpec.ofChange s with cond := some uptoSmall }

/-- 'forelocklaw34.HistBelow', WHERE WHAT IT READS IS OF BULK AT MOST 1048576: true; the input reads as it did. -/
def histBelowUptoRow : OpenClaim := { program := "ytccfamagckgamaa", sum := "4f6dcfa936c7a9d3acbbd7968e8a53d4c9c1d4e9cf62b189f04d450b126c0837", func := "forelock/forelocklaw34.HistBelow", spec := "histBelow", inPlace := ["math/bits.Add64"], apart := false, narrowed := true }
def HistBelowUptoSaid : Prop := histBelowUptoRow.holds Try.pinned (OpenSpec.upto histBelowSpec)

/-- 'forelocklaw34.HistRuns', WHERE WHAT IT READS IS OF BULK AT MOST 1048576: true; the input reads as it did. -/
def histRunsUptoRow : OpenClaim := { program := "ytccfamagckgamaa", sum := "4f6dcfa936c7a9d3acbbd7968e8a53d4c9c1d4e9cf62b189f04d450b126c0837", func := "forelock/forelocklaw34.HistRuns", spec := "histRuns", inPlace := ["math/bits.Add64"], unfollowed := true, recurses := true, apart := false, narrowed := true }
def HistRunsUptoSaid : Prop := histRunsUptoRow.holds Try.pinned (OpenSpec.upto histRunsSpec)

/-- 'forelocklaw34.HistJoins', WHERE WHAT IT READS IS OF BULK AT MOST 1048576: true; the input reads as it did. -/
def histJoinsUptoRow : OpenClaim := { program := "ytccfamagckgamaa", sum := "4f6dcfa936c7a9d3acbbd7968e8a53d4c9c1d4e9cf62b189f04d450b126c0837", func := "forelock/forelocklaw34.HistJoins", spec := "histJoins", inPlace := ["math/bits.Add64"], unfollowed := true, recurses := true, apart := false, narrowed := true }
def HistJoinsUptoSaid : Prop := histJoinsUptoRow.holds Try.pinned (OpenSpec.upto histJoinsSpec)

end Rows
end Go.Proofs.Ytccfamagckgamaa
