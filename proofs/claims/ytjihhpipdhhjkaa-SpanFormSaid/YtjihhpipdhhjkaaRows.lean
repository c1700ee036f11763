/-
  No cell of these rows narrows 'for every input' (looked for: loops, veiled, ifaces, maps, wideKeys, modest, calm, conditions, laid).
  DERIVED. THE GIVEN ROWS OF THIS SEAT. 3 by the template 'for every input the law returns true; each argument reads behind the call as it read before'; 0 by the template 'total and deterministic' (their statements: YtjihhpipdhhjkaaTotals.lean).
  GIVEN WITH THE SEED: the statements are not yours to turn. If you find one false, say at which input.
  Laid BY PROGRAM, IN A SANDBOX (cutbox-rows.mjs): the forced cells as the released guide's own fill.sh prints them over the translation a3f1495cf1843e89… (all of the seat's roots in one cut). By AI agents, Wed Nov 11 2026. No macro, syntax, notation, axiom, sorry.
-/
import Derived.Test.YtjihhpipdhhjkaaChecked
import GoSem.Claim
import GoSem.ClaimJoined
import GoSem.ClaimMapViews
import Derived.JoinedTies
import Derived.KernelRfl
namespace Go.Proofs.Ytjihhpipdhhjkaa
/- THE CELL 'sum', in the pinned program and in every row, IS THE sha256 OF THE DUMP (.gsa) THAT YtjihhpipdhhjkaaProg.lean LOADS. Nothing in Lean hashes anything: it is a label: what it is worth is what the hold of that sum in a sandbox is worth. -/
noncomputable def Try.pinned : Pinned := { name := "ytjihhpipdhhjkaa", sum := "a3f1495cf1843e8967f48999e2ef0a9e75e7a59ca41248dd227fd8b7e0b921b3", checked := Try.checked }
namespace Rows
def none {H : Type} : Left H := { results := [], args := [] }

/-- 'forelocklaw33.SpanGaps': WHATEVER THE INPUT: true; the input reads as it did. -/
def spanGapsSpec : ChangeSpec := { name := "spanGaps", fn := fun _ => fun
  | [d1, d2, d3] => { results := [.lit (.bool true)], args := [d1, d2, d3] }
  | _ => none }
def spanGapsRow : OpenClaim := { program := "ytjihhpipdhhjkaa", sum := "a3f1495cf1843e8967f48999e2ef0a9e75e7a59ca41248dd227fd8b7e0b921b3", func := "forelock/forelocklaw33.SpanGaps", spec := "spanGaps", unfollowed := true, recurses := true, apart := false }
def SpanGapsSaid : Prop := spanGapsRow.holds Try.pinned (OpenSpec.ofChange spanGapsSpec)

/-- ITS FALSE NEIGHBOUR: 'it returns false'. Refute it at one input. -/
def spanGapsWrong : ChangeSpec := { name := "spanGaps", fn := fun _ => fun
  | [d1, d2, d3] => { results := [.lit (.bool false)], args := [d1, d2, d3] }
  | _ => none }
def SpanGapsWrongFalsely : Prop := spanGapsRow.holds Try.pinned (OpenSpec.ofChange spanGapsWrong)

/-- 'forelocklaw33.SpanRuns': WHATEVER THE INPUT: true; the input reads as it did. -/
def spanRunsSpec : ChangeSpec := { name := "spanRuns", fn := fun _ => fun
  | [d1, d2, d3] => { results := [.lit (.bool true)], args := [d1, d2, d3] }
  | _ => none }
def spanRunsRow : OpenClaim := { program := "ytjihhpipdhhjkaa", sum := "a3f1495cf1843e8967f48999e2ef0a9e75e7a59ca41248dd227fd8b7e0b921b3", func := "forelock/forelocklaw33.SpanRuns", spec := "spanRuns", unfollowed := true, recurses := true, apart := false }
def SpanRunsSaid : Prop := spanRunsRow.holds Try.pinned (OpenSpec.ofChange spanRunsSpec)

/-- ITS FALSE NEIGHBOUR: 'it returns false'. Refute it at one input. -/
def spanRunsWrong : ChangeSpec := { name := "spanRuns", fn := fun _ => fun
  | [d1, d2, d3] => { results := [.lit (.bool false)], args := [d1, d2, d3] }
  | _ => none }
def SpanRunsWrongFalsely : Prop := spanRunsRow.holds Try.pinned (OpenSpec.ofChange spanRunsWrong)

/-- 'forelocklaw33.SpanForm': WHATEVER THE INPUT: true; the input reads as it did. -/
def spanFormSpec : ChangeSpec := { name := "spanForm", fn := fun _ => fun
  | [d] => { results := [.lit (.bool true)], args := [d] }
  | _ => none }
def spanFormRow : OpenClaim := { program := "ytjihhpipdhhjkaa", sum := "a3f1495cf1843e8967f48999e2ef0a9e75e7a59ca41248dd227fd8b7e0b921b3", func := "forelock/forelocklaw33.SpanForm", spec := "spanForm", unfollowed := true, recurses := true, apart := false }
def SpanFormSaid : Prop := spanFormRow.holds Try.pinned (OpenSpec.ofChange spanFormSpec)

/-- ITS FALSE NEIGHBOUR: 'it returns false'. Refute it at one input. -/
def spanFormWrong : ChangeSpec := { name := "spanForm", fn := fun _ => fun
  | [d] => { results := [.lit (.bool false)], args := [d] }
  | _ => none }
def SpanFormWrongFalsely : Prop := spanFormRow.holds Try.pinned (OpenSpec.ofChange spanFormWrong)

/- THE SECOND FORM. 'bulk': how many values and letters a reading holds, each counted each time it is reached (what is shared counts as often as it is met; a slice's spare places count too). A statement '..UptoSaid' is the law's where the arguments, and the package variables that the reading takes, are together of bulk at most 1048576: NARROWER than '..Said'. Prove '..Said' where nothing that the law and all that it calls make is longer than what came in: it says more and counts as full. Else prove '..UptoSaid'. A law counts once. -/
mutual
def uptoBulk {H : Type} : DataW H → Nat
  | .lit (.string bytes) => bytes.length + 1
  | .lit _ => 1
  | .nil => 1
  | .ptr d => uptoBulk d + 1
  | .slice elems spare => uptoBulkAll elems + uptoBulkAll spare + 1
  | .agg parts => uptoBulkAll parts + 1
  | .iface _ d => uptoBulk d + 1
  | .map entries => uptoBulkEntries entries + 1
  | .held _ => 1
def uptoBulkAll {H : Type} : List (DataW H) → Nat
  | [] => 0
  | d :: r => uptoBulk d + uptoBulkAll r
def uptoBulkEntries {H : Type} : List (Lit × DataW H) → Nat
  | [] => 0
  | x :: r => uptoBulkEntry x + uptoBulkEntries r
def uptoBulkEntry {H : Type} : Lit × DataW H → Nat
  | (.string bytes, d) => bytes.length + uptoBulk d + 1
  | (_, d) => uptoBulk d + 1
 end
def uptoSmall : (H : Type) → List (DataW H) → Bool := fun _ ds => decide (uptoBulkAll ds ≤ 1048576)
def OpenSpec.upto (s : _root_.Go.ChangeSpec) : _root_.Go.OpenSpec := { _root_.Go.OpenSpec.ofChange s with cond := some uptoSmall }

/-- 'forelocklaw33.SpanGaps', WHERE WHAT IT READS IS OF BULK AT MOST 1048576: true; the input reads as it did. -/
def spanGapsUptoRow : OpenClaim := { program := "ytjihhpipdhhjkaa", sum := "a3f1495cf1843e8967f48999e2ef0a9e75e7a59ca41248dd227fd8b7e0b921b3", func := "forelock/forelocklaw33.SpanGaps", spec := "spanGaps", unfollowed := true, recurses := true, apart := false, narrowed := true }
def SpanGapsUptoSaid : Prop := spanGapsUptoRow.holds Try.pinned (OpenSpec.upto spanGapsSpec)

/-- 'forelocklaw33.SpanRuns', WHERE WHAT IT READS IS OF BULK AT MOST 1048576: true; the input reads as it did. -/
def spanRunsUptoRow : OpenClaim := { program := "ytjihhpipdhhjkaa", sum := "a3f1495cf1843e8967f48999e2ef0a9e75e7a59ca41248dd227fd8b7e0b921b3", func := "forelock/forelocklaw33.SpanRuns", spec := "spanRuns", unfollowed := true, recurses := true, apart := false, narrowed := true }
def SpanRunsUptoSaid : Prop := spanRunsUptoRow.holds Try.pinned (OpenSpec.upto spanRunsSpec)

/-- 'forelocklaw33.SpanForm', WHERE WHAT IT READS IS OF BULK AT MOST 1048576: true; the input reads as it did. -/
def spanFormUptoRow : OpenClaim := { program := "ytjihhpipdhhjkaa", sum := "a3f1495cf1843e8967f48999e2ef0a9e75e7a59ca41248dd227fd8b7e0b921b3", func := "forelock/forelocklaw33.SpanForm", spec := "spanForm", unfollowed := true, recurses := true, apart := false, narrowed := true }
def SpanFormUptoSaid : Prop := spanFormUptoRow.holds Try.pinned (OpenSpec.upto spanFormSpec)

end Rows
end Go.Proofs.Ytjihhpipdhhjkaa
