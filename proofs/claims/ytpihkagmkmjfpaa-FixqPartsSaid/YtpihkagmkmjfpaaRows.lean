/-
  No cell of these rows narrows 'for every input' (looked for: loops, veiled, ifaces, maps, wideKeys, modest, calm, conditions, laid).
  DERIVED. THE GIVEN ROWS OF THIS SEAT. 5 by the template 'for every input the law returns true; each argument reads behind the call as it read before'; 0 by the template 'total and deterministic' (their statements: YtpihkagmkmjfpaaTotals.lean).
  GIVEN WITH THE SEED: the statements are not yours to turn. If you find one false, say at which input.
  Laid BY PROGRAM, IN A SANDBOX (cutbox-rows.mjs): the forced cells as the released guide's own fill.sh prints them over the translation 7399ca314bf58c9c… (all of the seat's roots in one cut). By AI agents, Wed Nov 11 2026. No macro, syntax, notation, axiom, sorry.
-/
import Derived.Test.YtpihkagmkmjfpaaChecked
import GoSem.Claim
import GoSem.ClaimJoined
import GoSem.ClaimMapViews
import Derived.JoinedTies
import Derived.KernelRfl
namespace Go.Proofs.Ytpihkagmkmjfpaa
/- THE CELL 'sum', in the pinned program and in every row, IS THE sha256 OF THE DUMP (.gsa) THAT YtpihkagmkmjfpaaProg.lean LOADS. Nothing in Lean hashes anything: it is a label: what it is worth is what the hold of that sum in a sandbox is worth. -/
noncomputable def Try.pinned : Pinned := { name := "ytpihkagmkmjfpaa", sum := "7399ca314bf58c9c7fe49b5ef3cef0a5841e09fbdd913dc280df41a8598c7ac9", checked := Try.checked }
namespace Rows
def none {H : Type} : Left H := { results := [], args := [] }

/-- 'forelocklaw01.FixqNear': WHATEVER THE INPUT: true; the input reads as it did. -/
def fixqNearSpec : ChangeSpec := { name := "fixqNear", fn := fun _ => fun
  | [d1, d2, d3] => { results := [.lit (.bool true)], args := [d1, d2, d3] }
  | _ => none }
def fixqNearRow : OpenClaim := { program := "ytpihkagmkmjfpaa", sum := "7399ca314bf58c9c7fe49b5ef3cef0a5841e09fbdd913dc280df41a8598c7ac9", func := "forelock/forelocklaw01.FixqNear", spec := "fixqNear", inPlace := ["math/bits.Add64", "math/bits.Sub64"], named := ["math/bits.divideError", "math/bits.overflowError"], apart := false }
def FixqNearSaid : Prop := fixqNearRow.holds Try.pinned (OpenSpec.ofChange fixqNearSpec)

/-- ITS FALSE NEIGHBOUR: 'it returns false'. Refute it at one input. -/
def fixqNearWrong : ChangeSpec := { name := "fixqNear", fn := fun _ => fun
  | [d1, d2, d3] => { results := [.lit (.bool false)], args := [d1, d2, d3] }
  | _ => none }
def FixqNearWrongFalsely : Prop := fixqNearRow.holds Try.pinned (OpenSpec.ofChange fixqNearWrong)

/-- 'forelocklaw01.FixqShares': WHATEVER THE INPUT: true; the input reads as it did. -/
def fixqSharesSpec : ChangeSpec := { name := "fixqShares", fn := fun _ => fun
  | [d] => { results := [.lit (.bool true)], args := [d] }
  | _ => none }
def fixqSharesRow : OpenClaim := { program := "ytpihkagmkmjfpaa", sum := "7399ca314bf58c9c7fe49b5ef3cef0a5841e09fbdd913dc280df41a8598c7ac9", func := "forelock/forelocklaw01.FixqShares", spec := "fixqShares", inPlace := ["math/bits.Add64", "math/bits.Sub64"], named := ["math/bits.divideError", "math/bits.overflowError"], apart := false }
def FixqSharesSaid : Prop := fixqSharesRow.holds Try.pinned (OpenSpec.ofChange fixqSharesSpec)

/-- ITS FALSE NEIGHBOUR: 'it returns false'. Refute it at one input. -/
def fixqSharesWrong : ChangeSpec := { name := "fixqShares", fn := fun _ => fun
  | [d] => { results := [.lit (.bool false)], args := [d] }
  | _ => none }
def FixqSharesWrongFalsely : Prop := fixqSharesRow.holds Try.pinned (OpenSpec.ofChange fixqSharesWrong)

/-- 'forelocklaw01.FixqSums': WHATEVER THE INPUT: true; the input reads as it did. -/
def fixqSumsSpec : ChangeSpec := { name := "fixqSums", fn := fun _ => fun
  | [d1, d2] => { results := [.lit (.bool true)], args := [d1, d2] }
  | _ => none }
def fixqSumsRow : OpenClaim := { program := "ytpihkagmkmjfpaa", sum := "7399ca314bf58c9c7fe49b5ef3cef0a5841e09fbdd913dc280df41a8598c7ac9", func := "forelock/forelocklaw01.FixqSums", spec := "fixqSums", inPlace := ["math/bits.Add64", "math/bits.Sub64"], named := ["math/bits.divideError", "math/bits.overflowError"], apart := false }
def FixqSumsSaid : Prop := fixqSumsRow.holds Try.pinned (OpenSpec.ofChange fixqSumsSpec)

/-- ITS FALSE NEIGHBOUR: 'it returns false'. Refute it at one input. -/
def fixqSumsWrong : ChangeSpec := { name := "fixqSums", fn := fun _ => fun
  | [d1, d2] => { results := [.lit (.bool false)], args := [d1, d2] }
  | _ => none }
def FixqSumsWrongFalsely : Prop := fixqSumsRow.holds Try.pinned (OpenSpec.ofChange fixqSumsWrong)

/-- 'forelocklaw01.FixqParts': WHATEVER THE INPUT: true; the input reads as it did. -/
def fixqPartsSpec : ChangeSpec := { name := "fixqParts", fn := fun _ => fun
  | [d1, d2, d3] => { results := [.lit (.bool true)], args := [d1, d2, d3] }
  | _ => none }
def fixqPartsRow : OpenClaim := { program := "ytpihkagmkmjfpaa", sum := "7399ca314bf58c9c7fe49b5ef3cef0a5841e09fbdd913dc280df41a8598c7ac9", func := "forelock/forelocklaw01.FixqParts", spec := "fixqParts", inPlace := ["math/bits.Add64", "math/bits.Sub64"], named := ["math/bits.divideError", "math/bits.overflowError"], apart := false }
def FixqPartsSaid : Prop := fixqPartsRow.holds Try.pinned (OpenSpec.ofChange fixqPartsSpec)

/-- ITS FALSE NEIGHBOUR: 'it returns false'. Refute it at one input. -/
def fixqPartsWrong : ChangeSpec := { name := "fixqParts", fn := fun _ => fun
  | [d1, d2, d3] => { results := [.lit (.bool false)], args := [d1, d2, d3] }
  | _ => none }
def FixqPartsWrongFalsely : Prop := fixqPartsRow.holds Try.pinned (OpenSpec.ofChange fixqPartsWrong)

/-- 'forelocklaw01.FixqWhole': WHATEVER THE INPUT: true; the input reads as it did. -/
def fixqWholeSpec : ChangeSpec := { name := "fixqWhole", fn := fun _ => fun
  | [d1, d2, d3] => { results := [.lit (.bool true)], args := [d1, d2, d3] }
  | _ => none }
def fixqWholeRow : OpenClaim := { program := "ytpihkagmkmjfpaa", sum := "7399ca314bf58c9c7fe49b5ef3cef0a5841e09fbdd913dc280df41a8598c7ac9", func := "forelock/forelocklaw01.FixqWhole", spec := "fixqWhole", inPlace := ["math/bits.Add64", "math/bits.Sub64"], named := ["math/bits.divideError", "math/bits.overflowError"], apart := false }
def FixqWholeSaid : Prop := fixqWholeRow.holds Try.pinned (OpenSpec.ofChange fixqWholeSpec)

/-- ITS FALSE NEIGHBOUR: 'it returns false'. Refute it at one input. -/
def fixqWholeWrong : ChangeSpec := { name := "fixqWhole", fn := fun _ => fun
  | [d1, d2, d3] => { results := [.lit (.bool false)], args := [d1, d2, d3] }
  | _ => none }
def FixqWholeWrongFalsely : Prop := fixqWholeRow.holds Try.pinned (OpenSpec.ofChange fixqWholeWrong)

/- THE SECOND FORM. 'bulk': how many values and letters a reading holds, each counted each time it is reached (what is shared counts as often as it is met; a slice's spare places count too). A statement '..UptoSaid' is the law's where the arguments, and the package variables that the reading takes, are together of bulk at most 1048576: NARROWER than '..Said'. Prove '..Said' where nothing that the law and all that it calls make is longer than what came in: it says more and counts as full. Else prove '..UptoSaid'. A law counts once. -/
mutual
def uptoBulk {H : Type} : DataW H → Nat
  | .lit (.string bytes) => bytes.length + 1
  | .lit _ => 1
  | .nil => 1
  | .ptr d => uptoBulk d + 1
  | .slice elems spare => uptoBulkAll elems + uptoBulkAll spare + 1
  | .agg parts => uptoBulkAll parts + 1
  | .iface _ d => uptoBulk d + 1
  | .map entries => uptoBulkEntries entries + 1
  | .held _ => 1
def uptoBulkAll {H : Type} : List (DataW H) → Nat
  | [] => 0
  | d :: r => uptoBulk d + uptoBulkAll r
def uptoBulkEntries {H : Type} : List (Lit × DataW H) → Nat
  | [] => 0
  | x :: r => uptoBulkEntry x + uptoBulkEntries r
def uptoBulkEntry {H : Type} : Lit × DataW H → Nat
  | (.string bytes, d) => bytes.length + uptoBulk d + 1
  | (_, d) => uptoBulk d + 1
 end
def uptoSmall : (H : Type) → List (DataW H) → Bool := fun _ ds => decide (uptoBulkAll ds ≤ 1048576)
def OpenSpec.upto (s : _root_.Go.ChangeSpec) : _root_.Go.OpenSpec := { _root_.Go.OpenSpec.ofChange s with cond := some uptoSmall }

/-- 'forelocklaw01.FixqNear', WHERE WHAT IT READS IS OF BULK AT MOST 1048576: true; the input reads as it did. -/
def fixqNearUptoRow : OpenClaim := { program := "ytpihkagmkmjfpaa", sum := "7399ca314bf58c9c7fe49b5ef3cef0a5841e09fbdd913dc280df41a8598c7ac9", func := "forelock/forelocklaw01.FixqNear", spec := "fixqNear", inPlace := ["math/bits.Add64", "math/bits.Sub64"], named := ["math/bits.divideError", "math/bits.overflowError"], apart := false, narrowed := true }
def FixqNearUptoSaid : Prop := fixqNearUptoRow.holds Try.pinned (OpenSpec.upto fixqNearSpec)

/-- 'forelocklaw01.FixqShares', WHERE WHAT IT READS IS OF BULK AT MOST 1048576: true; the input reads as it did. -/
def fixqSharesUptoRow : OpenClaim := { program := "ytpihkagmkmjfpaa", sum := "7399ca314bf58c9c7fe49b5ef3cef0a5841e09fbdd913dc280df41a8598c7ac9", func := "forelock/forelocklaw01.FixqShares", spec := "fixqShares", inPlace := ["math/bits.Add64", "math/bits.Sub64"], named := ["math/bits.divideError", "math/bits.overflowError"], apart := false, narrowed := true }
def FixqSharesUptoSaid : Prop := fixqSharesUptoRow.holds Try.pinned (OpenSpec.upto fixqSharesSpec)

/-- 'forelocklaw01.FixqSums', WHERE WHAT IT READS IS OF BULK AT MOST 1048576: true; the input reads as it did. -/
def fixqSumsUptoRow : OpenClaim := { program := "ytpihkagmkmjfpaa", sum := "7399ca314bf58c9c7fe49b5ef3cef0a5841e09fbdd913dc280df41a8598c7ac9", func := "forelock/forelocklaw01.FixqSums", spec := "fixqSums", inPlace := ["math/bits.Add64", "math/bits.Sub64"], named := ["math/bits.divideError", "math/bits.overflowError"], apart := false, narrowed := true }
def FixqSumsUptoSaid : Prop := fixqSumsUptoRow.holds Try.pinned (OpenSpec.upto fixqSumsSpec)

/-- 'forelocklaw01.FixqParts', WHERE WHAT IT READS IS OF BULK AT MOST 1048576: true; the input reads as it did. -/
def fixqPartsUptoRow : OpenClaim := { program := "ytpihkagmkmjfpaa", sum := "7399ca314bf58c9c7fe49b5ef3cef0a5841e09fbdd913dc280df41a8598c7ac9", func := "forelock/forelocklaw01.FixqParts", spec := "fixqParts", inPlace := ["math/bits.Add64", "math/bits.Sub64"], named := ["math/bits.divideError", "math/bits.overflowError"], apart := false, narrowed := true }
def FixqPartsUptoSaid : Prop := fixqPartsUptoRow.holds Try.pinned (OpenSpec.upto fixqPartsSpec)

/-- 'forelocklaw01.FixqWhole', WHERE WHAT IT READS IS OF BULK AT MOST 1048576: true; the input reads as it did. -/
def fixqWholeUptoRow : OpenClaim := { program := "ytpihkagmkmjfpaa", sum := "7399ca314bf58c9c7fe49b5ef3cef0a5841e09fbdd913dc280df41a8598c7ac9", func := "forelock/forelocklaw01.FixqWhole", spec := "fixqWhole", inPlace := ["math/bits.Add64", "math/bits.Sub64"], named := ["math/bits.divideError", "math/bits.overflowError"], apart := false, narrowed := true }
def FixqWholeUptoSaid : Prop := fixqWholeUptoRow.holds Try.pinned (OpenSpec.upto fixqWholeSpec)

end Rows
end Go.Proofs.Ytpihkagmkmjfpaa
