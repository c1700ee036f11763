/-
  No cell of these rows narrows 'for every input' (looked for: loops, veiled, ifaces, maps, wideKeys, modest, calm, conditions, laid).
  DERIVED. THE GIVEN ROWS OF THIS SEAT. 4 by the template 'for every input the law returns true; each argument reads behind the call as it read before'; 0 by the template 'total and deterministic' (their statements: YtolhbcgmlaodbaaTotals.lean).
  GIVEN WITH THE SEED: the statements are not yours to turn. If you find one false, say at which input.
  Laid BY PROGRAM, IN A SANDBOX (cutbox-rows.mjs): the forced cells as the released guide's own fill.sh prints them over the translation ac28e45aae501437… (all of the seat's roots in one cut). By AI agents, Wed Nov 11 2026. No macro, syntax, notation, axiom, sorry.
-/
import Derived.Test.YtolhbcgmlaodbaaChecked
import GoSem.Claim
import GoSem.ClaimJoined
import GoSem.ClaimMapViews
import Derived.JoinedTies
import Derived.KernelRfl
namespace Go.Proofs.Ytolhbcgmlaodbaa
/- THE CELL 'sum', in the pinned program and in every row, IS THE sha256 OF THE DUMP (.gsa) THAT YtolhbcgmlaodbaaProg.lean LOADS. Nothing in Lean hashes anything: it is a label: what it is worth is what the hold of that sum in a sandbox is worth. -/
noncomputable def Try.pinned : Pinned := { name := "ytolhbcgmlaodbaa", sum := "ac28e45aae501437b5456b8ab5c0a20d4aa4c0f2e84931a20ba8f855da729e42", checked := Try.checked }
namespace Rows
def none {H : Type} : Left H := { results := [], args := [] }

/-- 'forelocklaw42.EdfTells': WHATEVER THE INPUT: true; the input reads as it did. -/
def edfTellsSpec : ChangeSpec := { name := "edfTells", fn := fun _ => fun
  | [d1, d2, d3] => { results := [.lit (.bool true)], args := [d1, d2, d3] }
  | _ => none }
def edfTellsRow : OpenClaim := { program := "ytolhbcgmlaodbaa", sum := "ac28e45aae501437b5456b8ab5c0a20d4aa4c0f2e84931a20ba8f855da729e42", func := "forelock/forelocklaw42.EdfTells", spec := "edfTells", unfollowed := true, recurses := true, apart := false }
def EdfTellsSaid : Prop := edfTellsRow.holds Try.pinned (OpenSpec.ofChange edfTellsSpec)

/-- ITS FALSE NEIGHBOUR: 'it returns false'. Refute it at one input. -/
def edfTellsWrong : ChangeSpec := { name := "edfTells", fn := fun _ => fun
  | [d1, d2, d3] => { results := [.lit (.bool false)], args := [d1, d2, d3] }
  | _ => none }
def EdfTellsWrongFalsely : Prop := edfTellsRow.holds Try.pinned (OpenSpec.ofChange edfTellsWrong)

/-- 'forelocklaw42.EdfAgrees': WHATEVER THE INPUT: true; the input reads as it did. -/
def edfAgreesSpec : ChangeSpec := { name := "edfAgrees", fn := fun _ => fun
  | [d1, d2] => { results := [.lit (.bool true)], args := [d1, d2] }
  | _ => none }
def edfAgreesRow : OpenClaim := { program := "ytolhbcgmlaodbaa", sum := "ac28e45aae501437b5456b8ab5c0a20d4aa4c0f2e84931a20ba8f855da729e42", func := "forelock/forelocklaw42.EdfAgrees", spec := "edfAgrees", unfollowed := true, recurses := true, apart := false }
def EdfAgreesSaid : Prop := edfAgreesRow.holds Try.pinned (OpenSpec.ofChange edfAgreesSpec)

/-- ITS FALSE NEIGHBOUR: 'it returns false'. Refute it at one input. -/
def edfAgreesWrong : ChangeSpec := { name := "edfAgrees", fn := fun _ => fun
  | [d1, d2] => { results := [.lit (.bool false)], args := [d1, d2] }
  | _ => none }
def EdfAgreesWrongFalsely : Prop := edfAgreesRow.holds Try.pinned (OpenSpec.ofChange edfAgreesWrong)

/-- 'forelocklaw42.EdfLess': WHATEVER THE INPUT: true; the input reads as it did. -/
def edfLessSpec : ChangeSpec := { name := "edfLess", fn := fun _ => fun
  | [d1, d2, d3] => { results := [.lit (.bool true)], args := [d1, d2, d3] }
  | _ => none }
def edfLessRow : OpenClaim := { program := "ytolhbcgmlaodbaa", sum := "ac28e45aae501437b5456b8ab5c0a20d4aa4c0f2e84931a20ba8f855da729e42", func := "forelock/forelocklaw42.EdfLess", spec := "edfLess", unfollowed := true, recurses := true, apart := false }
def EdfLessSaid : Prop := edfLessRow.holds Try.pinned (OpenSpec.ofChange edfLessSpec)

/-- ITS FALSE NEIGHBOUR: 'it returns false'. Refute it at one input. -/
def edfLessWrong : ChangeSpec := { name := "edfLess", fn := fun _ => fun
  | [d1, d2, d3] => { results := [.lit (.bool false)], args := [d1, d2, d3] }
  | _ => none }
def EdfLessWrongFalsely : Prop := edfLessRow.holds Try.pinned (OpenSpec.ofChange edfLessWrong)

/-- 'forelocklaw42.EdfAdds': WHATEVER THE INPUT: true; the input reads as it did. -/
def edfAddsSpec : ChangeSpec := { name := "edfAdds", fn := fun _ => fun
  | [d1, d2, d3] => { results := [.lit (.bool true)], args := [d1, d2, d3] }
  | _ => none }
def edfAddsRow : OpenClaim := { program := "ytolhbcgmlaodbaa", sum := "ac28e45aae501437b5456b8ab5c0a20d4aa4c0f2e84931a20ba8f855da729e42", func := "forelock/forelocklaw42.EdfAdds", spec := "edfAdds", unfollowed := true, recurses := true, apart := false }
def EdfAddsSaid : Prop := edfAddsRow.holds Try.pinned (OpenSpec.ofChange edfAddsSpec)

/-- ITS FALSE NEIGHBOUR: 'it returns false'. Refute it at one input. -/
def edfAddsWrong : ChangeSpec := { name := "edfAdds", fn := fun _ => fun
  | [d1, d2, d3] => { results := [.lit (.bool false)], args := [d1, d2, d3] }
  | _ => none }
def EdfAddsWrongFalsely : Prop := edfAddsRow.holds Try.pinned (OpenSpec.ofChange edfAddsWrong)

/- THE SECOND FORM. 'bulk': how many values and letters a reading holds, each counted each time it is reached (what is shared counts as often as it is met; a slice's spare places count too). A statement '..UptoSaid' is the law's where the arguments, and the package variables that the reading takes, are together of bulk at most 1048576: NARROWER than '..Said'. Prove '..Said' where nothing that the law and all that it calls make is longer than what came in: it says more and counts as full. Else prove '..UptoSaid'. A law counts once. -/
mutual
def uptoBulk {H : Type} : DataW H → Nat
  | .lit (.string bytes) => bytes.length + 1
  | .lit _ => 1
  | .nil => 1
  | .ptr d => uptoBulk d + 1
  | .slice elems spare => uptoBulkAll elems + uptoBulkAll spare + 1
  | .agg parts => uptoBulkAll parts + 1
  | .iface _ d => uptoBulk d + 1
  | .map entries => uptoBulkEntries entries + 1
  | .held _ => 1
def uptoBulkAll {H : Type} : List (DataW H) → Nat
  | [] => 0
  | d :: r => uptoBulk d + uptoBulkAll r
def uptoBulkEntries {H : Type} : List (Lit × DataW H) → Nat
  | [] => 0
  | x :: r => uptoBulkEntry x + uptoBulkEntries r
def uptoBulkEntry {H : Type} : Lit × DataW H → Nat
  | (.string bytes, d) => bytes.length + uptoBulk d + 1
  | (_, d) => uptoBulk d + 1
 end
def uptoSmall : (H : Type) → List (DataW H) → Bool := fun _ ds => decide (uptoBulkAll ds ≤ 1048576)
def OpenSpec.upto (s : _root_.Go.ChangeSpec) : _root_.Go.OpenSpec := { _root_.Go.OpenSpec.ofChange s with cond := some uptoSmall }

/-- 'forelocklaw42.EdfTells', WHERE WHAT IT READS IS OF BULK AT MOST 1048576: true; the input reads as it did. -/
def edfTellsUptoRow : OpenClaim := { program := "ytolhbcgmlaodbaa", sum := "ac28e45aae501437b5456b8ab5c0a20d4aa4c0f2e84931a20ba8f855da729e42", func := "forelock/forelocklaw42.EdfTells", spec := "edfTells", unfollowed := true, recurses := true, apart := false, narrowed := true }
def EdfTellsUptoSaid : Prop := edfTellsUptoRow.holds Try.pinned (OpenSpec.upto edfTellsSpec)

/-- 'forelocklaw42.EdfAgrees', WHERE WHAT IT READS IS OF BULK AT MOST 1048576: true; the input reads as it did. -/
def edfAgreesUptoRow : OpenClaim := { program := "ytolhbcgmlaodbaa", sum := "ac28e45aae501437b5456b8ab5c0a20d4aa4c0f2e84931a20ba8f855da729e42", func := "forelock/forelocklaw42.EdfAgrees", spec := "edfAgrees", unfollowed := true, recurses := true, apart := false, narrowed := true }
def EdfAgreesUptoSaid : Prop := edfAgreesUptoRow.holds Try.pinned (OpenSpec.upto edfAgreesSpec)

/-- 'forelocklaw42.EdfLess', WHERE WHAT IT READS IS OF BULK AT MOST 1048576: true; the input reads as it did. -/
def edfLessUptoRow : OpenClaim := { program := "ytolhbcgmlaodbaa", sum := "ac28e45aae501437b5456b8ab5c0a20d4aa4c0f2e84931a20ba8f855da729e42", func := "forelock/forelocklaw42.EdfLess", spec := "edfLess", unfollowed := true, recurses := true, apart := false, narrowed := true }
def EdfLessUptoSaid : Prop := edfLessUptoRow.holds Try.pinned (OpenSpec.upto edfLessSpec)

/-- 'forelocklaw42.EdfAdds', WHERE WHAT IT READS IS OF BULK AT MOST 1048576: true; the input reads as it did. -/
def edfAddsUptoRow : OpenClaim := { program := "ytolhbcgmlaodbaa", sum := "ac28e45aae501437b5456b8ab5c0a20d4aa4c0f2e84931a20ba8f855da729e42", func := "forelock/forelocklaw42.EdfAdds", spec := "edfAdds", unfollowed := true, recurses := true, apart := false, narrowed := true }
def EdfAddsUptoSaid : Prop := edfAddsUptoRow.holds Try.pinned (OpenSpec.upto edfAddsSpec)

end Rows
end Go.Proofs.Ytolhbcgmlaodbaa
