/-
  No cell of these rows narrows 'for every input' (looked for: loops, veiled, ifaces, maps, wideKeys, modest, calm, conditions, laid).
  DERIVED. THE GIVEN ROWS OF THIS SEAT. 3 by the template 'for every input the law returns true; each argument reads behind the call as it read before'; 0 by the template 'total and deterministic' (their statements: YtdeejiiegmddaaaTotals.lean).
  GIVEN WITH THE SEED: the statements are not yours to turn. If you find one false, say at which input.
  Laid BY PROGRAM, IN A SANDBOX (cutbox-rows.mjs): the forced cells as the released guide's own fill.sh prints them over the translation e744aa467b958b05… (all of the seat's roots in one cut). By AI agents, Wed Nov 11 2026. No macro, syntax, notation, axiom, sorry.
-/
import Derived.Test.YtdeejiiegmddaaaChecked
import GoSem.Claim
import GoSem.ClaimJoined
import GoSem.ClaimMapViews
import Derived.JoinedTies
import Derived.KernelRfl
namespace Go.Proofs.Ytdeejiiegmddaaa
/- THE CELL 'sum', in the pinned program and in every row, IS THE sha256 OF THE DUMP (.gsa) THAT YtdeejiiegmddaaaProg.lean LOADS. Nothing in Lean hashes anything: it is a label: what it is worth is what the hold of that sum in a sandbox is worth. -/
noncomputable def Try.pinned : Pinned := { name := "ytdeejiiegmddaaa", sum := "e744aa467b958b0508a78bd966d9bd3a3a58656ec751eedde9748b7bf43b227f", checked := Try.checked }
namespace Rows
def none {H : Type} : Left H := { results := [], args := [] }

/-- 'forelocklaw25.StatTells': WHATEVER THE INPUT: true; the input reads as it did. -/
def statTellsSpec : ChangeSpec := { name := "statTells", fn := fun _ => fun
  | [d] => { results := [.lit (.bool true)], args := [d] }
  | _ => none }
def statTellsRow : OpenClaim := { program := "ytdeejiiegmddaaa", sum := "e744aa467b958b0508a78bd966d9bd3a3a58656ec751eedde9748b7bf43b227f", func := "forelock/forelocklaw25.StatTells", spec := "statTells", inPlace := ["math/bits.Add64"], unfollowed := true, recurses := true, apart := false }
def StatTellsSaid : Prop := statTellsRow.holds Try.pinned (OpenSpec.ofChange statTellsSpec)

/-- ITS FALSE NEIGHBOUR: 'it returns false'. Refute it at one input. -/
def statTellsWrong : ChangeSpec := { name := "statTells", fn := fun _ => fun
  | [d] => { results := [.lit (.bool false)], args := [d] }
  | _ => none }
def StatTellsWrongFalsely : Prop := statTellsRow.holds Try.pinned (OpenSpec.ofChange statTellsWrong)

/-- 'forelocklaw25.StatParts': WHATEVER THE INPUT: true; the input reads as it did. -/
def statPartsSpec : ChangeSpec := { name := "statParts", fn := fun _ => fun
  | [d1, d2] => { results := [.lit (.bool true)], args := [d1, d2] }
  | _ => none }
def statPartsRow : OpenClaim := { program := "ytdeejiiegmddaaa", sum := "e744aa467b958b0508a78bd966d9bd3a3a58656ec751eedde9748b7bf43b227f", func := "forelock/forelocklaw25.StatParts", spec := "statParts", inPlace := ["math/bits.Add64"], unfollowed := true, recurses := true, apart := false }
def StatPartsSaid : Prop := statPartsRow.holds Try.pinned (OpenSpec.ofChange statPartsSpec)

/-- ITS FALSE NEIGHBOUR: 'it returns false'. Refute it at one input. -/
def statPartsWrong : ChangeSpec := { name := "statParts", fn := fun _ => fun
  | [d1, d2] => { results := [.lit (.bool false)], args := [d1, d2] }
  | _ => none }
def StatPartsWrongFalsely : Prop := statPartsRow.holds Try.pinned (OpenSpec.ofChange statPartsWrong)

/-- 'forelocklaw25.StatTotals': WHATEVER THE INPUT: true; the input reads as it did. -/
def statTotalsSpec : ChangeSpec := { name := "statTotals", fn := fun _ => fun
  | [d] => { results := [.lit (.bool true)], args := [d] }
  | _ => none }
def statTotalsRow : OpenClaim := { program := "ytdeejiiegmddaaa", sum := "e744aa467b958b0508a78bd966d9bd3a3a58656ec751eedde9748b7bf43b227f", func := "forelock/forelocklaw25.StatTotals", spec := "statTotals", inPlace := ["math/bits.Add64"], unfollowed := true, recurses := true, apart := false }
def StatTotalsSaid : Prop := statTotalsRow.holds Try.pinned (OpenSpec.ofChange statTotalsSpec)

/-- ITS FALSE NEIGHBOUR: 'it returns false'. Refute it at one input. -/
def statTotalsWrong : ChangeSpec := { name := "statTotals", fn := fun _ => fun
  | [d] => { results := [.lit (.bool false)], args := [d] }
  | _ => none }
def StatTotalsWrongFalsely : Prop := statTotalsRow.holds Try.pinned (OpenSpec.ofChange statTotalsWrong)

/- THE SECOND FORM. 'bulk': how many values and letters a reading holds, each counted each time it is reached (what is shared counts as often as it is met; a slice's spare places count too). A statement '..UptoSaid' is the law's where the arguments, and the package variables that the reading takes, are together of bulk at most 1048576: NARROWER than '..Said'. Prove '..Said' where nothing that the law and all that it calls make is longer than what came in: it says more and counts as full. Else prove '..UptoSaid'. A law counts once. -/
mutual
def uptoBulk {H : Type} : DataW H → Nat
  | .lit (.string bytes) => bytes.length + 1
  | .lit _ => 1
  | .nil => 1
  | .ptr d => uptoBulk d + 1
  | .slice elems spare => uptoBulkAll elems + uptoBulkAll spare + 1
  | .agg parts => uptoBulkAll parts + 1
  | .iface _ d => uptoBulk d + 1
  | .map entries => uptoBulkEntries entries + 1
  | .held _ => 1
def uptoBulkAll {H : Type} : List (DataW H) → Nat
  | [] => 0
  | d :: r => uptoBulk d + uptoBulkAll r
def uptoBulkEntries {H : Type} : List (Lit × DataW H) → Nat
  | [] => 0
  | x :: r => uptoBulkEntry x + uptoBulkEntries r
def uptoBulkEntry {H : Type} : Lit × DataW H → Nat
  | (.string bytes, d) => bytes.length + uptoBulk d + 1
  | (_, d) => uptoBulk d + 1
 end
def uptoSmall : (H : Type) → List (DataW H) → Bool := fun _ ds => decide (uptoBulkAll ds ≤ 1048576)
def OpenSpec.upto (s : _root_.Go.ChangeSpec) : _root_.Go.OpenSpec := { _root_.Go.OpenSpec.ofChange s with cond := some uptoSmall }

/-- 'forelocklaw25.StatTells', WHERE WHAT IT READS IS OF BULK AT MOST 1048576: true; the input reads as it did. -/
def statTellsUptoRow : OpenClaim := { program := "ytdeejiiegmddaaa", sum := "e744aa467b958b0508a78bd966d9bd3a3a58656ec751eedde9748b7bf43b227f", func := "forelock/forelocklaw25.StatTells", spec := "statTells", inPlace := ["math/bits.Add64"], unfollowed := true, recurses := true, apart := false, narrowed := true }
def StatTellsUptoSaid : Prop := statTellsUptoRow.holds Try.pinned (OpenSpec.upto statTellsSpec)

/-- 'forelocklaw25.StatParts', WHERE WHAT IT READS IS OF BULK AT MOST 1048576: true; the input reads as it did. -/
def statPartsUptoRow : OpenClaim := { program := "ytdeejiiegmddaaa", sum := "e744aa467b958b0508a78bd966d9bd3a3a58656ec751eedde9748b7bf43b227f", func := "forelock/forelocklaw25.StatParts", spec := "statParts", inPlace := ["math/bits.Add64"], unfollowed := true, recurses := true, apart := false, narrowed := true }
def StatPartsUptoSaid : Prop := statPartsUptoRow.holds Try.pinned (OpenSpec.upto statPartsSpec)

/-- 'forelocklaw25.StatTotals', WHERE WHAT IT READS IS OF BULK AT MOST 1048576: true; the input reads as it did. -/
def statTotalsUptoRow : OpenClaim := { program := "ytdeejiiegmddaaa", sum := "e744aa467b958b0508a78bd966d9bd3a3a58656ec751eedde9748b7bf43b227f", func := "forelock/forelocklaw25.StatTotals", spec := "statTotals", inPlace := ["math/bits.Add64"], unfollowed := true, recurses := true, apart := false, narrowed := true }
def StatTotalsUptoSaid : Prop := statTotalsUptoRow.holds Try.pinned (OpenSpec.upto statTotalsSpec)

end Rows
end Go.Proofs.Ytdeejiiegmddaaa
