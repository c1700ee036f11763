/-
  No cell of these rows narrows 'for every input' (looked for: loops, veiled, ifaces, maps, wideKeys, modest, calm, conditions, laid).
  DERIVED. THE GIVEN ROWS OF THIS SEAT. 3 by the template 'for every input the law returns true; each argument reads behind the call as it read before'; 0 by the template 'total and deterministic' (their statements: YtjhjkchcjpijaaaTotals.lean).
  GIVEN WITH THE SEED: the statements are not yours to turn. If you find one false, say at which input.
  Laid BY PROGRAM, IN A SANDBOX (cutbox-rows.mjs): the forced cells as the released guide's own fill.sh prints them over the translation fa41fa35d41b6ebd… (all of the seat's roots in one cut). By AI agents, Wed Nov 11 2026. No macro, syntax, notation, axiom, sorry.
-/
import Derived.Test.YtjhjkchcjpijaaaChecked
import GoSem.Claim
import GoSem.ClaimJoined
import GoSem.ClaimMapViews
import Derived.JoinedTies
import Derived.KernelRfl
namespace Go.Proofs.Ytjhjkchcjpijaaa
/- THE CELL 'sum', in the pinned program and in every row, IS THE sha256 OF THE DUMP (.gsa) THAT YtjhjkchcjpijaaaProg.lean LOADS. Nothing in Lean hashes anything: it is a label: what it is worth is what the hold of that sum in a sandbox is worth. -/
noncomputable def Try.pinned : Pinned := { name := "ytjhjkchcjpijaaa", sum := "fa41fa35d41b6ebdac2775d759cd444241c5e7f0a103485e2644d9327a8d39d5", checked := Try.checked }
namespace Rows
def none {H : Type} : Left H := { results := [], args := [] }

/-- 'forelocklaw37.StrideOrder': WHATEVER THE INPUT: true; the input reads as it did. -/
def strideOrderSpec : ChangeSpec := { name := "strideOrder", fn := fun _ => fun
  | [d1, d2] => { results := [.lit (.bool true)], args := [d1, d2] }
  | _ => none }
def strideOrderRow : OpenClaim := { program := "ytjhjkchcjpijaaa", sum := "fa41fa35d41b6ebdac2775d759cd444241c5e7f0a103485e2644d9327a8d39d5", func := "forelock/forelocklaw37.StrideOrder", spec := "strideOrder", inPlace := ["math/bits.Add64"], unfollowed := true, recurses := true, apart := false }
def StrideOrderSaid : Prop := strideOrderRow.holds Try.pinned (OpenSpec.ofChange strideOrderSpec)

/-- ITS FALSE NEIGHBOUR: 'it returns false'. Refute it at one input. -/
def strideOrderWrong : ChangeSpec := { name := "strideOrder", fn := fun _ => fun
  | [d1, d2] => { results := [.lit (.bool false)], args := [d1, d2] }
  | _ => none }
def StrideOrderWrongFalsely : Prop := strideOrderRow.holds Try.pinned (OpenSpec.ofChange strideOrderWrong)

/-- 'forelocklaw37.StrideTwice': WHATEVER THE INPUT: true; the input reads as it did. -/
def strideTwiceSpec : ChangeSpec := { name := "strideTwice", fn := fun _ => fun
  | [d1, d2] => { results := [.lit (.bool true)], args := [d1, d2] }
  | _ => none }
def strideTwiceRow : OpenClaim := { program := "ytjhjkchcjpijaaa", sum := "fa41fa35d41b6ebdac2775d759cd444241c5e7f0a103485e2644d9327a8d39d5", func := "forelock/forelocklaw37.StrideTwice", spec := "strideTwice", inPlace := ["math/bits.Add64"], unfollowed := true, recurses := true, apart := false }
def StrideTwiceSaid : Prop := strideTwiceRow.holds Try.pinned (OpenSpec.ofChange strideTwiceSpec)

/-- ITS FALSE NEIGHBOUR: 'it returns false'. Refute it at one input. -/
def strideTwiceWrong : ChangeSpec := { name := "strideTwice", fn := fun _ => fun
  | [d1, d2] => { results := [.lit (.bool false)], args := [d1, d2] }
  | _ => none }
def StrideTwiceWrongFalsely : Prop := strideTwiceRow.holds Try.pinned (OpenSpec.ofChange strideTwiceWrong)

/-- 'forelocklaw37.StrideFair': WHATEVER THE INPUT: true; the input reads as it did. -/
def strideFairSpec : ChangeSpec := { name := "strideFair", fn := fun _ => fun
  | [d1, d2] => { results := [.lit (.bool true)], args := [d1, d2] }
  | _ => none }
def strideFairRow : OpenClaim := { program := "ytjhjkchcjpijaaa", sum := "fa41fa35d41b6ebdac2775d759cd444241c5e7f0a103485e2644d9327a8d39d5", func := "forelock/forelocklaw37.StrideFair", spec := "strideFair", inPlace := ["math/bits.Add64", "math/bits.Sub64"], unfollowed := true, recurses := true, apart := false }
def StrideFairSaid : Prop := strideFairRow.holds Try.pinned (OpenSpec.ofChange strideFairSpec)

/-- ITS FALSE NEIGHBOUR: 'it returns false'. Refute it at one input. -/
def strideFairWrong : ChangeSpec := { name := "strideFair", fn := fun _ => fun
  | [d1, d2] => { results := [.lit (.bool false)], args := [d1, d2] }
  | _ => none }
def StrideFairWrongFalsely : Prop := strideFairRow.holds Try.pinned (OpenSpec.ofChange strideFairWrong)

/- THE SECOND FORM. 'bulk': how many values and letters a reading holds, each counted each time it is reached (what is shared counts as often as it is met; a slice's spare places count too). A statement '..UptoSaid' is the law's where the arguments, and the package variables that the reading takes, are together of bulk at most 1048576: NARROWER than '..Said'. Prove '..Said' where nothing that the law and all that it calls make is longer than what came in: it says more and counts as full. Else prove '..UptoSaid'. A law counts once. -/
mutual
def uptoBulk {H : Type} : DataW H → Nat
  | .lit (.string bytes) => bytes.length + 1
  | .lit _ => 1
  | .nil => 1
  | .ptr d => uptoBulk d + 1
  | .slice elems spare => uptoBulkAll elems + uptoBulkAll spare + 1
  | .agg parts => uptoBulkAll parts + 1
  | .iface _ d => uptoBulk d + 1
  | .map entries => uptoBulkEntries entries + 1
  | .held _ => 1
def uptoBulkAll {H : Type} : List (DataW H) → Nat
  | [] => 0
  | d :: r => uptoBulk d + uptoBulkAll r
def uptoBulkEntries {H : Type} : List (Lit × DataW H) → Nat
  | [] => 0
  | x :: r => uptoBulkEntry x + uptoBulkEntries r
def uptoBulkEntry {H : Type} : Lit × DataW H → Nat
  | (.string bytes, d) => bytes.length + uptoBulk d + 1
  | (_, d) => uptoBulk d + 1
 end
def uptoSmall : (H : Type) → List (DataW H) → Bool := fun _ ds => decide (uptoBulkAll ds ≤ 1048576)
def OpenSpec.upto (s : _root_.Go.ChangeSpec) : _root_.Go.OpenSpec := { _root_.Go.OpenSpec.ofChange s with cond := some uptoSmall }

/-- 'forelocklaw37.StrideOrder', WHERE WHAT IT READS IS OF BULK AT MOST 1048576: true; the input reads as it did. -/
def strideOrderUptoRow : OpenClaim := { program := "ytjhjkchcjpijaaa", sum := "fa41fa35d41b6ebdac2775d759cd444241c5e7f0a103485e2644d9327a8d39d5", func := "forelock/forelocklaw37.StrideOrder", spec := "strideOrder", inPlace := ["math/bits.Add64"], unfollowed := true, recurses := true, apart := false, narrowed := true }
def StrideOrderUptoSaid : Prop := strideOrderUptoRow.holds Try.pinned (OpenSpec.upto strideOrderSpec)

/-- 'forelocklaw37.StrideTwice', WHERE WHAT IT READS IS OF BULK AT MOST 1048576: true; the input reads as it did. -/
def strideTwiceUptoRow : OpenClaim := { program := "ytjhjkchcjpijaaa", sum := "fa41fa35d41b6ebdac2775d759cd444241c5e7f0a103485e2644d9327a8d39d5", func := "forelock/forelocklaw37.StrideTwice", spec := "strideTwice", inPlace := ["math/bits.Add64"], unfollowed := true, recurses := true, apart := false, narrowed := true }
def StrideTwiceUptoSaid : Prop := strideTwiceUptoRow.holds Try.pinned (OpenSpec.upto strideTwiceSpec)

/-- 'forelocklaw37.StrideFair', WHERE WHAT IT READS IS OF BULK AT MOST 1048576: true; the input reads as it did. -/
def strideFairUptoRow : OpenClaim := { program := "ytjhjkchcjpijaaa", sum := "fa41fa35d41b6ebdac2775d759cd444241c5e7f0a103485e2644d9327a8d39d5", func := "forelock/forelocklaw37.StrideFair", spec := "strideFair", inPlace := ["math/bits.Add64", "math/bits.Sub64"], unfollowed := true, recurses := true, apart := false, narrowed := true }
def StrideFairUptoSaid : Prop := strideFairUptoRow.holds Try.pinned (OpenSpec.upto strideFairSpec)

end Rows
end Go.Proofs.Ytjhjkchcjpijaaa
