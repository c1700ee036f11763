/-
  No cell of these rows narrows 'for every input' (looked for: loops, veiled, ifaces, maps, wideKeys, modest, calm, conditions, laid).
  DERIVED. THE GIVEN ROWS OF THIS SEAT. 4 by the template 'for every input the law returns true; each argument reads behind the call as it read before'; 0 by the template 'total and deterministic' (their statements: YthemogfniohdiaaTotals.lean).
  GIVEN WITH THE SEED: the statements are not yours to turn. If you find one false, say at which input.
  Laid BY PROGRAM, IN A SANDBOX (cutbox-rows.mjs): the forced cells as the released guide's own fill.sh prints them over the translation 287ff8c910e99c06… (all of the seat's roots in one cut). By AI agents, Wed Nov 11 2026. No macro, syntax, notation, axiom, sorry.
-/
import Derived.Test.YthemogfniohdiaaChecked
import GoSem.Claim
import GoSem.ClaimJoined
import GoSem.ClaimMapViews
import Derived.JoinedTies
import Derived.KernelRfl
namespace Go.Proofs.Ythemogfniohdiaa
/- THE CELL 'sum', in the pinned program and in every row, IS THE sha256 OF THE DUMP (.gsa) THAT YthemogfniohdiaaProg.lean LOADS. Nothing in Lean hashes anything: it is a label: what it is worth is what the hold of that sum in a sandbox is worth. -/
noncomputable def Try.pinned : Pinned := { name := "ythemogfniohdiaa", sum := "287ff8c910e99c0695fafb0f3e38673d8fe30a5e57dfb0e0ecfd3559a3f47eac", checked := Try.checked }
namespace Rows
def none {H : Type} : Left H := { results := [], args := [] }

/-- 'forelocklaw32.MergeTwo': WHATEVER THE INPUT: true; the input reads as it did. -/
def mergeTwoSpec : ChangeSpec := { name := "mergeTwo", fn := fun _ => fun
  | [d1, d2, d3] => { results := [.lit (.bool true)], args := [d1, d2, d3] }
  | _ => none }
def mergeTwoRow : OpenClaim := { program := "ythemogfniohdiaa", sum := "287ff8c910e99c0695fafb0f3e38673d8fe30a5e57dfb0e0ecfd3559a3f47eac", func := "forelock/forelocklaw32.MergeTwo", spec := "mergeTwo", unfollowed := true, recurses := true, apart := false }
def MergeTwoSaid : Prop := mergeTwoRow.holds Try.pinned (OpenSpec.ofChange mergeTwoSpec)

/-- ITS FALSE NEIGHBOUR: 'it returns false'. Refute it at one input. -/
def mergeTwoWrong : ChangeSpec := { name := "mergeTwo", fn := fun _ => fun
  | [d1, d2, d3] => { results := [.lit (.bool false)], args := [d1, d2, d3] }
  | _ => none }
def MergeTwoWrongFalsely : Prop := mergeTwoRow.holds Try.pinned (OpenSpec.ofChange mergeTwoWrong)

/-- 'forelocklaw32.MergeSorts': WHATEVER THE INPUT: true; the input reads as it did. -/
def mergeSortsSpec : ChangeSpec := { name := "mergeSorts", fn := fun _ => fun
  | [d1, d2] => { results := [.lit (.bool true)], args := [d1, d2] }
  | _ => none }
def mergeSortsRow : OpenClaim := { program := "ythemogfniohdiaa", sum := "287ff8c910e99c0695fafb0f3e38673d8fe30a5e57dfb0e0ecfd3559a3f47eac", func := "forelock/forelocklaw32.MergeSorts", spec := "mergeSorts", unfollowed := true, recurses := true, apart := false }
def MergeSortsSaid : Prop := mergeSortsRow.holds Try.pinned (OpenSpec.ofChange mergeSortsSpec)

/-- ITS FALSE NEIGHBOUR: 'it returns false'. Refute it at one input. -/
def mergeSortsWrong : ChangeSpec := { name := "mergeSorts", fn := fun _ => fun
  | [d1, d2] => { results := [.lit (.bool false)], args := [d1, d2] }
  | _ => none }
def MergeSortsWrongFalsely : Prop := mergeSortsRow.holds Try.pinned (OpenSpec.ofChange mergeSortsWrong)

/-- 'forelocklaw32.MergeAll': WHATEVER THE INPUT: true; the input reads as it did. -/
def mergeAllSpec : ChangeSpec := { name := "mergeAll", fn := fun _ => fun
  | [d1, d2] => { results := [.lit (.bool true)], args := [d1, d2] }
  | _ => none }
def mergeAllRow : OpenClaim := { program := "ythemogfniohdiaa", sum := "287ff8c910e99c0695fafb0f3e38673d8fe30a5e57dfb0e0ecfd3559a3f47eac", func := "forelock/forelocklaw32.MergeAll", spec := "mergeAll", unfollowed := true, recurses := true, apart := false }
def MergeAllSaid : Prop := mergeAllRow.holds Try.pinned (OpenSpec.ofChange mergeAllSpec)

/-- ITS FALSE NEIGHBOUR: 'it returns false'. Refute it at one input. -/
def mergeAllWrong : ChangeSpec := { name := "mergeAll", fn := fun _ => fun
  | [d1, d2] => { results := [.lit (.bool false)], args := [d1, d2] }
  | _ => none }
def MergeAllWrongFalsely : Prop := mergeAllRow.holds Try.pinned (OpenSpec.ofChange mergeAllWrong)

/-- 'forelocklaw32.MergeUniq': WHATEVER THE INPUT: true; the input reads as it did. -/
def mergeUniqSpec : ChangeSpec := { name := "mergeUniq", fn := fun _ => fun
  | [d1, d2] => { results := [.lit (.bool true)], args := [d1, d2] }
  | _ => none }
def mergeUniqRow : OpenClaim := { program := "ythemogfniohdiaa", sum := "287ff8c910e99c0695fafb0f3e38673d8fe30a5e57dfb0e0ecfd3559a3f47eac", func := "forelock/forelocklaw32.MergeUniq", spec := "mergeUniq", unfollowed := true, recurses := true, apart := false }
def MergeUniqSaid : Prop := mergeUniqRow.holds Try.pinned (OpenSpec.ofChange mergeUniqSpec)

/-- ITS FALSE NEIGHBOUR: 'it returns false'. Refute it at one input. -/
def mergeUniqWrong : ChangeSpec := { name := "mergeUniq", fn := fun _ => fun
  | [d1, d2] => { results := [.lit (.bool false)], args := [d1, d2] }
  | _ => none }
def MergeUniqWrongFalsely : Prop := mergeUniqRow.holds Try.pinned (OpenSpec.ofChange mergeUniqWrong)

/- THE SECOND FORM. 'bulk': how many values and letters a reading holds, each counted each time it is reached (what is shared counts as often as it is met; a slice's spare places count too). A statement '..UptoSaid' is the law's where the arguments, and the package variables that the reading takes, are together of bulk at most 1048576: NARROWER than '..Said'. Prove '..Said' where nothing that the law and all that it calls make is longer than what came in: it says more and counts as full. Else prove '..UptoSaid'. A law counts once. -/
mutual
def uptoBulk {H : Type} : DataW H → Nat
  | .lit (.string bytes) => bytes.length + 1
  | .lit _ => 1
  | .nil => 1
  | .ptr d => uptoBulk d + 1
  | .slice elems spare => uptoBulkAll elems + uptoBulkAll spare + 1
  | .agg parts => uptoBulkAll parts + 1
  | .iface _ d => uptoBulk d + 1
  | .map entries => uptoBulkEntries entries + 1
  | .held _ => 1
def uptoBulkAll {H : Type} : List (DataW H) → Nat
  | [] => 0
  | d :: r => uptoBulk d + uptoBulkAll r
def uptoBulkEntries {H : Type} : List (Lit × DataW H) → Nat
  | [] => 0
  | x :: r => uptoBulkEntry x + uptoBulkEntries r
def uptoBulkEntry {H : Type} : Lit × DataW H → Nat
  | (.string bytes, d) => bytes.length + uptoBulk d + 1
  | (_, d) => uptoBulk d + 1
 end
def uptoSmall : (H : Type) → List (DataW H) → Bool := fun _ ds => decide (uptoBulkAll ds ≤ 1048576)
def OpenSpec.upto (s : _root_.Go.ChangeSpec) : _root_.Go.OpenSpec := { _root_.Go.OpenSpec.ofChange s with cond := some uptoSmall }

/-- 'forelocklaw32.MergeTwo', WHERE WHAT IT READS IS OF BULK AT MOST 1048576: true; the input reads as it did. -/
def mergeTwoUptoRow : OpenClaim := { program := "ythemogfniohdiaa", sum := "287ff8c910e99c0695fafb0f3e38673d8fe30a5e57dfb0e0ecfd3559a3f47eac", func := "forelock/forelocklaw32.MergeTwo", spec := "mergeTwo", unfollowed := true, recurses := true, apart := false, narrowed := true }
def MergeTwoUptoSaid : Prop := mergeTwoUptoRow.holds Try.pinned (OpenSpec.upto mergeTwoSpec)

/-- 'forelocklaw32.MergeSorts', WHERE WHAT IT READS IS OF BULK AT MOST 1048576: true; the input reads as it did. -/
def mergeSortsUptoRow : OpenClaim := { program := "ythemogfniohdiaa", sum := "287ff8c910e99c0695fafb0f3e38673d8fe30a5e57dfb0e0ecfd3559a3f47eac", func := "forelock/forelocklaw32.MergeSorts", spec := "mergeSorts", unfollowed := true, recurses := true, apart := false, narrowed := true }
def MergeSortsUptoSaid : Prop := mergeSortsUptoRow.holds Try.pinned (OpenSpec.upto mergeSortsSpec)

/-- 'forelocklaw32.MergeAll', WHERE WHAT IT READS IS OF BULK AT MOST 1048576: true; the input reads as it did. -/
def mergeAllUptoRow : OpenClaim := { program := "ythemogfniohdiaa", sum := "287ff8c910e99c0695fafb0f3e38673d8fe30a5e57dfb0e0ecfd3559a3f47eac", func := "forelock/forelocklaw32.MergeAll", spec := "mergeAll", unfollowed := true, recurses := true, apart := false, narrowed := true }
def MergeAllUptoSaid : Prop := mergeAllUptoRow.holds Try.pinned (OpenSpec.upto mergeAllSpec)

/-- 'forelocklaw32.MergeUniq', WHERE WHAT IT READS IS OF BULK AT MOST 1048576: true; the input reads as it did. -/
def mergeUniqUptoRow : OpenClaim := { program := "ythemogfniohdiaa", sum := "287ff8c910e99c0695fafb0f3e38673d8fe30a5e57dfb0e0ecfd3559a3f47eac", func := "forelock/forelocklaw32.MergeUniq", spec := "mergeUniq", unfollowed := true, recurses := true, apart := false, narrowed := true }
def MergeUniqUptoSaid : Prop := mergeUniqUptoRow.holds Try.pinned (OpenSpec.upto mergeUniqSpec)

end Rows
end Go.Proofs.Ythemogfniohdiaa
