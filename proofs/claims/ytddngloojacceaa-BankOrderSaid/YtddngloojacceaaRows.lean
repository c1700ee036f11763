/-
  No cell of these rows narrows 'for every input' (looked for: loops, veiled, ifaces, maps, wideKeys, modest, calm, conditions, laid).
  DERIVED. THE GIVEN ROWS OF THIS SEAT. 4 by the template 'for every input the law returns true; each argument reads behind the call as it read before'; 0 by the template 'total and deterministic' (their statements: YtddngloojacceaaTotals.lean).
  GIVEN WITH THE SEED: the statements are not yours to turn. If you find one false, say at which input.
  Laid BY PROGRAM, IN A SANDBOX (cutbox-rows.mjs): the forced cells as the released guide's own fill.sh prints them over the translation 98aee63b98d221df… (all of the seat's roots in one cut). By AI agents, Wed Nov 11 2026. No macro, syntax, notation, axiom, sorry.
-/
import Derived.Test.YtddngloojacceaaChecked
import GoSem.Claim
import GoSem.ClaimJoined
import GoSem.ClaimMapViews
import Derived.JoinedTies
import Derived.KernelRfl
namespace Go.Proofs.Ytddngloojacceaa
/- THE CELL 'sum', in the pinned program and in every row, IS THE sha256 OF THE DUMP (.gsa) THAT YtddngloojacceaaProg.lean LOADS. Nothing in Lean hashes anything: it is a label: what it is worth is what the hold of that sum in a sandbox is worth. -/
noncomputable def Try.pinned : Pinned := { name := "ytddngloojacceaa", sum := "98aee63b98d221dfcb7ed49903510d76f52a35c2aff6d2c25a3c815f5321095e", checked := Try.checked }
namespace Rows
def none {H : Type} : Left H := { results := [], args := [] }

/-- 'forelocklaw44.BankOrder': WHATEVER THE INPUT: true; the input reads as it did. -/
def bankOrderSpec : ChangeSpec := { name := "bankOrder", fn := fun _ => fun
  | [d] => { results := [.lit (.bool true)], args := [d] }
  | _ => none }
def bankOrderRow : OpenClaim := { program := "ytddngloojacceaa", sum := "98aee63b98d221dfcb7ed49903510d76f52a35c2aff6d2c25a3c815f5321095e", func := "forelock/forelocklaw44.BankOrder", spec := "bankOrder", unfollowed := true, recurses := true, apart := false }
def BankOrderSaid : Prop := bankOrderRow.holds Try.pinned (OpenSpec.ofChange bankOrderSpec)

/-- ITS FALSE NEIGHBOUR: 'it returns false'. Refute it at one input. -/
def bankOrderWrong : ChangeSpec := { name := "bankOrder", fn := fun _ => fun
  | [d] => { results := [.lit (.bool false)], args := [d] }
  | _ => none }
def BankOrderWrongFalsely : Prop := bankOrderRow.holds Try.pinned (OpenSpec.ofChange bankOrderWrong)

/-- 'forelocklaw44.BankOther': WHATEVER THE INPUT: true; the input reads as it did. -/
def bankOtherSpec : ChangeSpec := { name := "bankOther", fn := fun _ => fun
  | [d] => { results := [.lit (.bool true)], args := [d] }
  | _ => none }
def bankOtherRow : OpenClaim := { program := "ytddngloojacceaa", sum := "98aee63b98d221dfcb7ed49903510d76f52a35c2aff6d2c25a3c815f5321095e", func := "forelock/forelocklaw44.BankOther", spec := "bankOther", unfollowed := true, recurses := true, apart := false }
def BankOtherSaid : Prop := bankOtherRow.holds Try.pinned (OpenSpec.ofChange bankOtherSpec)

/-- ITS FALSE NEIGHBOUR: 'it returns false'. Refute it at one input. -/
def bankOtherWrong : ChangeSpec := { name := "bankOther", fn := fun _ => fun
  | [d] => { results := [.lit (.bool false)], args := [d] }
  | _ => none }
def BankOtherWrongFalsely : Prop := bankOtherRow.holds Try.pinned (OpenSpec.ofChange bankOtherWrong)

/-- 'forelocklaw44.BankTells': WHATEVER THE INPUT: true; the input reads as it did. -/
def bankTellsSpec : ChangeSpec := { name := "bankTells", fn := fun _ => fun
  | [d1, d2, d3] => { results := [.lit (.bool true)], args := [d1, d2, d3] }
  | _ => none }
def bankTellsRow : OpenClaim := { program := "ytddngloojacceaa", sum := "98aee63b98d221dfcb7ed49903510d76f52a35c2aff6d2c25a3c815f5321095e", func := "forelock/forelocklaw44.BankTells", spec := "bankTells", unfollowed := true, recurses := true, apart := false }
def BankTellsSaid : Prop := bankTellsRow.holds Try.pinned (OpenSpec.ofChange bankTellsSpec)

/-- ITS FALSE NEIGHBOUR: 'it returns false'. Refute it at one input. -/
def bankTellsWrong : ChangeSpec := { name := "bankTells", fn := fun _ => fun
  | [d1, d2, d3] => { results := [.lit (.bool false)], args := [d1, d2, d3] }
  | _ => none }
def BankTellsWrongFalsely : Prop := bankTellsRow.holds Try.pinned (OpenSpec.ofChange bankTellsWrong)

/-- 'forelocklaw44.BankSafe': WHATEVER THE INPUT: true; the input reads as it did. -/
def bankSafeSpec : ChangeSpec := { name := "bankSafe", fn := fun _ => fun
  | [d1, d2] => { results := [.lit (.bool true)], args := [d1, d2] }
  | _ => none }
def bankSafeRow : OpenClaim := { program := "ytddngloojacceaa", sum := "98aee63b98d221dfcb7ed49903510d76f52a35c2aff6d2c25a3c815f5321095e", func := "forelock/forelocklaw44.BankSafe", spec := "bankSafe", unfollowed := true, recurses := true, apart := false }
def BankSafeSaid : Prop := bankSafeRow.holds Try.pinned (OpenSpec.ofChange bankSafeSpec)

/-- ITS FALSE NEIGHBOUR: 'it returns false'. Refute it at one input. -/
def bankSafeWrong : ChangeSpec := { name := "bankSafe", fn := fun _ => fun
  | [d1, d2] => { results := [.lit (.bool false)], args := [d1, d2] }
  | _ => none }
def BankSafeWrongFalsely : Prop := bankSafeRow.holds Try.pinned (OpenSpec.ofChange bankSafeWrong)

/- THE SECOND FORM. 'bulk': how many values and letters a reading holds, each counted each time it is reached (what is shared counts as often as it is met; a slice's spare places count too). A statement '..UptoSaid' is the law's where the arguments, and the package variables that the reading takes, are together of bulk at most 1048576: NARROWER than '..Said'. Prove '..Said' where nothing that the law and all that it calls make is longer than what came in: it says more and counts as full. Else prove '..UptoSaid'. A law counts once. -/
mutual
def uptoBulk {H : Type} : DataW H → Nat
  | .lit (.string bytes) => bytes.length + 1
  | .lit _ => 1
  | .nil => 1
  | .ptr d => uptoBulk d + 1
  | .slice elems spare => uptoBulkAll elems + uptoBulkAll spare + 1
  | .agg parts => uptoBulkAll parts + 1
  | .iface _ d => uptoBulk d + 1
  | .map entries => uptoBulkEntries entries + 1
  | .held _ => 1
def uptoBulkAll {H : Type} : List (DataW H) → Nat
  | [] => 0
  | d :: r => uptoBulk d + uptoBulkAll r
def uptoBulkEntries {H : Type} : List (Lit × DataW H) → Nat
  | [] => 0
  | x :: r => uptoBulkEntry x + uptoBulkEntries r
def uptoBulkEntry {H : Type} : Lit × DataW H → Nat
  | (.string bytes, d) => bytes.length + uptoBulk d + 1
  | (_, d) => uptoBulk d + 1
 end
def uptoSmall : (H : Type) → List (DataW H) → Bool := fun _ ds => decide (uptoBulkAll ds ≤ 1048576)
def OpenSpec.upto (s : _root_.Go.ChangeSpec) : _root_.Go.OpenSpec := { _root_.Go.OpenSpec.ofChange s with cond := some uptoSmall }

/-- 'forelocklaw44.BankOrder', WHERE WHAT IT READS IS OF BULK AT MOST 1048576: true; the input reads as it did. -/
def bankOrderUptoRow : OpenClaim := { program := "ytddngloojacceaa", sum := "98aee63b98d221dfcb7ed49903510d76f52a35c2aff6d2c25a3c815f5321095e", func := "forelock/forelocklaw44.BankOrder", spec := "bankOrder", unfollowed := true, recurses := true, apart := false, narrowed := true }
def BankOrderUptoSaid : Prop := bankOrderUptoRow.holds Try.pinned (OpenSpec.upto bankOrderSpec)

/-- 'forelocklaw44.BankOther', WHERE WHAT IT READS IS OF BULK AT MOST 1048576: true; the input reads as it did. -/
def bankOtherUptoRow : OpenClaim := { program := "ytddngloojacceaa", sum := "98aee63b98d221dfcb7ed49903510d76f52a35c2aff6d2c25a3c815f5321095e", func := "forelock/forelocklaw44.BankOther", spec := "bankOther", unfollowed := true, recurses := true, apart := false, narrowed := true }
def BankOtherUptoSaid : Prop := bankOtherUptoRow.holds Try.pinned (OpenSpec.upto bankOtherSpec)

/-- 'forelocklaw44.BankTells', WHERE WHAT IT READS IS OF BULK AT MOST 1048576: true; the input reads as it did. -/
def bankTellsUptoRow : OpenClaim := { program := "ytddngloojacceaa", sum := "98aee63b98d221dfcb7ed49903510d76f52a35c2aff6d2c25a3c815f5321095e", func := "forelock/forelocklaw44.BankTells", spec := "bankTells", unfollowed := true, recurses := true, apart := false, narrowed := true }
def BankTellsUptoSaid : Prop := bankTellsUptoRow.holds Try.pinned (OpenSpec.upto bankTellsSpec)

/-- 'forelocklaw44.BankSafe', WHERE WHAT IT READS IS OF BULK AT MOST 1048576: true; the input reads as it did. -/
def bankSafeUptoRow : OpenClaim := { program := "ytddngloojacceaa", sum := "98aee63b98d221dfcb7ed49903510d76f52a35c2aff6d2c25a3c815f5321095e", func := "forelock/forelocklaw44.BankSafe", spec := "bankSafe", unfollowed := true, recurses := true, apart := false, narrowed := true }
def BankSafeUptoSaid : Prop := bankSafeUptoRow.holds Try.pinned (OpenSpec.upto bankSafeSpec)

end Rows
end Go.Proofs.Ytddngloojacceaa
