/-
  No cell of these rows narrows 'for every input' (looked for: loops, veiled, ifaces, maps, wideKeys, modest, calm, conditions, laid).
  DERIVED. THE GIVEN ROWS OF THIS SEAT. 3 by the template 'for every input the law returns true; each argument reads behind the call as it read before'; 0 by the template 'total and deterministic' (their statements: YtifdogmlaengoaaTotals.lean).
  GIVEN WITH THE SEED: the statements are not yours to turn. If you find one false, say at which input.
  Laid BY PROGRAM, IN A SANDBOX (cutbox-rows.mjs): the forced cells as the released guide's own fill.sh prints them over the translation 70d40debc1e1441d… (all of the seat's roots in one cut). By AI agents, Wed Nov 11 2026. No macro, syntax, notation, axiom, sorry.
-/
import Derived.Test.YtifdogmlaengoaaChecked
import GoSem.Claim
import GoSem.ClaimJoined
import GoSem.ClaimMapViews
import Derived.JoinedTies
import Derived.KernelRfl
namespace Go.Proofs.Ytifdogmlaengoaa
/- THE CELL 'sum', in the pinned program and in every row, IS THE sha256 OF THE DUMP (.gsa) THAT YtifdogmlaengoaaProg.lean LOADS. Nothing in Lean hashes anything: it is a label: what it is worth is what the hold of that sum in a sandbox is worth. -/
noncomputable def Try.pinned : Pinned := { name := "ytifdogmlaengoaa", sum := "70d40debc1e1441d384ce654f40471438033bb8b3834f9b04ea88d306d3db3eb", checked := Try.checked }
namespace Rows
def none {H : Type} : Left H := { results := [], args := [] }

/-- 'forelocklaw05.FifoPours': WHATEVER THE INPUT: true; the input reads as it did. -/
def fifoPoursSpec : ChangeSpec := { name := "fifoPours", fn := fun _ => fun
  | [d1, d2, d3] => { results := [.lit (.bool true)], args := [d1, d2, d3] }
  | _ => none }
def fifoPoursRow : OpenClaim := { program := "ytifdogmlaengoaa", sum := "70d40debc1e1441d384ce654f40471438033bb8b3834f9b04ea88d306d3db3eb", func := "forelock/forelocklaw05.FifoPours", spec := "fifoPours", apart := false }
def FifoPoursSaid : Prop := fifoPoursRow.holds Try.pinned (OpenSpec.ofChange fifoPoursSpec)

/-- ITS FALSE NEIGHBOUR: 'it returns false'. Refute it at one input. -/
def fifoPoursWrong : ChangeSpec := { name := "fifoPours", fn := fun _ => fun
  | [d1, d2, d3] => { results := [.lit (.bool false)], args := [d1, d2, d3] }
  | _ => none }
def FifoPoursWrongFalsely : Prop := fifoPoursRow.holds Try.pinned (OpenSpec.ofChange fifoPoursWrong)

/-- 'forelocklaw05.FifoRuns': WHATEVER THE INPUT: true; the input reads as it did. -/
def fifoRunsSpec : ChangeSpec := { name := "fifoRuns", fn := fun _ => fun
  | [d1, d2] => { results := [.lit (.bool true)], args := [d1, d2] }
  | _ => none }
def fifoRunsRow : OpenClaim := { program := "ytifdogmlaengoaa", sum := "70d40debc1e1441d384ce654f40471438033bb8b3834f9b04ea88d306d3db3eb", func := "forelock/forelocklaw05.FifoRuns", spec := "fifoRuns", unfollowed := true, recurses := true, apart := false }
def FifoRunsSaid : Prop := fifoRunsRow.holds Try.pinned (OpenSpec.ofChange fifoRunsSpec)

/-- ITS FALSE NEIGHBOUR: 'it returns false'. Refute it at one input. -/
def fifoRunsWrong : ChangeSpec := { name := "fifoRuns", fn := fun _ => fun
  | [d1, d2] => { results := [.lit (.bool false)], args := [d1, d2] }
  | _ => none }
def FifoRunsWrongFalsely : Prop := fifoRunsRow.holds Try.pinned (OpenSpec.ofChange fifoRunsWrong)

/-- 'forelocklaw05.FifoOrder': WHATEVER THE INPUT: true; the input reads as it did. -/
def fifoOrderSpec : ChangeSpec := { name := "fifoOrder", fn := fun _ => fun
  | [d1, d2, d3] => { results := [.lit (.bool true)], args := [d1, d2, d3] }
  | _ => none }
def fifoOrderRow : OpenClaim := { program := "ytifdogmlaengoaa", sum := "70d40debc1e1441d384ce654f40471438033bb8b3834f9b04ea88d306d3db3eb", func := "forelock/forelocklaw05.FifoOrder", spec := "fifoOrder", unfollowed := true, recurses := true, apart := false }
def FifoOrderSaid : Prop := fifoOrderRow.holds Try.pinned (OpenSpec.ofChange fifoOrderSpec)

/-- ITS FALSE NEIGHBOUR: 'it returns false'. Refute it at one input. -/
def fifoOrderWrong : ChangeSpec := { name := "fifoOrder", fn := fun _ => fun
  | [d1, d2, d3] => { results := [.lit (.bool false)], args := [d1, d2, d3] }
  | _ => none }
def FifoOrderWrongFalsely : Prop := fifoOrderRow.holds Try.pinned (OpenSpec.ofChange fifoOrderWrong)

/- THE SECOND FORM. 'bulk': how many values and letters a reading holds, each counted each time it is reached (what is shared counts as often as it is met; a slice's spare places count too). A statement '..UptoSaid' is the law's where the arguments, and the package variables that the reading takes, are together of bulk at most 1048576: NARROWER than '..Said'. Prove '..Said' where nothing that the law and all that it calls make is longer than what came in: it says more and counts as full. Else prove '..UptoSaid'. A law counts once. -/
mutual
def uptoBulk {H : Type} : DataW H → Nat
  | .lit (.string bytes) => bytes.length + 1
  | .lit _ => 1
  | .nil => 1
  | .ptr d => uptoBulk d + 1
  | .slice elems spare => uptoBulkAll elems + uptoBulkAll spare + 1
  | .agg parts => uptoBulkAll parts + 1
  | .iface _ d => uptoBulk d + 1
  | .map entries => uptoBulkEntries entries + 1
  | .held _ => 1
def uptoBulkAll {H : Type} : List (DataW H) → Nat
  | [] => 0
  | d :: r => uptoBulk d + uptoBulkAll r
def uptoBulkEntries {H : Type} : List (Lit × DataW H) → Nat
  | [] => 0
  | x :: r => uptoBulkEntry x + uptoBulkEntries r
def uptoBulkEntry {H : Type} : Lit × DataW H → Nat
  | (.string bytes, d) => bytes.length + uptoBulk d + 1
  | (_, d) => uptoBulk d + 1
 end
def uptoSmall : (H : Type) → List (DataW H) → Bool := fun _ ds => decide (uptoBulkAll ds ≤ 1048576)
def OpenSpec.upto (s : _root_.Go.ChangeSpec) : _root_.Go.OpenSpec := { _root_.Go.OpenSpec.ofChange s with cond := some uptoSmall }

/-- 'forelocklaw05.FifoPours', WHERE WHAT IT READS IS OF BULK AT MOST 1048576: true; the input reads as it did. -/
def fifoPoursUptoRow : OpenClaim := { program := "ytifdogmlaengoaa", sum := "70d40debc1e1441d384ce654f40471438033bb8b3834f9b04ea88d306d3db3eb", func := "forelock/forelocklaw05.FifoPours", spec := "fifoPours", apart := false, narrowed := true }
def FifoPoursUptoSaid : Prop := fifoPoursUptoRow.holds Try.pinned (OpenSpec.upto fifoPoursSpec)

/-- 'forelocklaw05.FifoRuns', WHERE WHAT IT READS IS OF BULK AT MOST 1048576: true; the input reads as it did. -/
def fifoRunsUptoRow : OpenClaim := { program := "ytifdogmlaengoaa", sum := "70d40debc1e1441d384ce654f40471438033bb8b3834f9b04ea88d306d3db3eb", func := "forelock/forelocklaw05.FifoRuns", spec := "fifoRuns", unfollowed := true, recurses := true, apart := false, narrowed := true }
def FifoRunsUptoSaid : Prop := fifoRunsUptoRow.holds Try.pinned (OpenSpec.upto fifoRunsSpec)

/-- 'forelocklaw05.FifoOrder', WHERE WHAT IT READS IS OF BULK AT MOST 1048576: true; the input reads as it did. -/
def fifoOrderUptoRow : OpenClaim := { program := "ytifdogmlaengoaa", sum := "70d40debc1e1441d384ce654f40471438033bb8b3834f9b04ea88d306d3db3eb", func := "forelock/forelocklaw05.FifoOrder", spec := "fifoOrder", unfollowed := true, recurses := true, apart := false, narrowed := true }
def FifoOrderUptoSaid : Prop := fifoOrderUptoRow.holds Try.pinned (OpenSpec.upto fifoOrderSpec)

end Rows
end Go.Proofs.Ytifdogmlaengoaa
