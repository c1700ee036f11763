/-
  No cell of these rows narrows 'for every input' (looked for: loops, veiled, ifaces, maps, wideKeys, modest, calm, conditions, laid).
  DERIVED. THE GIVEN ROWS OF THIS SEAT. 2 by the template 'for every input the law returns true; each argument reads behind the call as it read before'; 0 by the template 'total and deterministic' (their statements: YtmkndabbkceknaaTotals.lean).
  GIVEN WITH THE SEED: the statements are not yours to turn. If you find one false, say at which input.
  Laid BY PROGRAM, IN A SANDBOX (cutbox-rows.mjs): the forced cells as the released guide's own fill.sh prints them over the translation 5a247ae8648d07bb… (all of the seat's roots in one cut). By AI agents, Wed Nov 11 2026. No macro, syntax, notation, axiom, sorry.
-/
import Derived.Test.YtmkndabbkceknaaChecked
import GoSem.Claim
import GoSem.ClaimJoined
import GoSem.ClaimMapViews
import Derived.JoinedTies
import Derived.KernelRfl
namespace Go.Proofs.Ytmkndabbkceknaa
/- THE CELL 'sum', in the pinned program and in every row, IS THE sha256 OF THE DUMP (.gsa) THAT YtmkndabbkceknaaProg.lean LOADS. Nothing in Lean hashes anything: it is a label: what it is worth is what the hold of that sum in a sandbox is worth. -/
noncomputable def Try.pinned : Pinned := { name := "ytmkndabbkceknaa", sum := "5a247ae8648d07bbd487301581bca6aa8b83445c4f5db416522776243978dbd4", checked := Try.checked }
namespace Rows
def none {H : Type} : Left H := { results := [], args := [] }

/-- 'forelocklaw38.QuotaBounds': WHATEVER THE INPUT: true; the input reads as it did. -/
def quotaBoundsSpec : ChangeSpec := { name := "quotaBounds", fn := fun _ => fun
  | [d1, d2] => { results := [.lit (.bool true)], args := [d1, d2] }
  | _ => none }
def quotaBoundsRow : OpenClaim := { program := "ytmkndabbkceknaa", sum := "5a247ae8648d07bbd487301581bca6aa8b83445c4f5db416522776243978dbd4", func := "forelock/forelocklaw38.QuotaBounds", spec := "quotaBounds", inPlace := ["math/bits.Add64"], apart := false }
def QuotaBoundsSaid : Prop := quotaBoundsRow.holds Try.pinned (OpenSpec.ofChange quotaBoundsSpec)

/-- ITS FALSE NEIGHBOUR: 'it returns false'. Refute it at one input. -/
def quotaBoundsWrong : ChangeSpec := { name := "quotaBounds", fn := fun _ => fun
  | [d1, d2] => { results := [.lit (.bool false)], args := [d1, d2] }
  | _ => none }
def QuotaBoundsWrongFalsely : Prop := quotaBoundsRow.holds Try.pinned (OpenSpec.ofChange quotaBoundsWrong)

/-- 'forelocklaw38.QuotaFits': WHATEVER THE INPUT: true; the input reads as it did. -/
def quotaFitsSpec : ChangeSpec := { name := "quotaFits", fn := fun _ => fun
  | [d1, d2] => { results := [.lit (.bool true)], args := [d1, d2] }
  | _ => none }
def quotaFitsRow : OpenClaim := { program := "ytmkndabbkceknaa", sum := "5a247ae8648d07bbd487301581bca6aa8b83445c4f5db416522776243978dbd4", func := "forelock/forelocklaw38.QuotaFits", spec := "quotaFits", inPlace := ["math/bits.Add64"], apart := false }
def QuotaFitsSaid : Prop := quotaFitsRow.holds Try.pinned (OpenSpec.ofChange quotaFitsSpec)

/-- ITS FALSE NEIGHBOUR: 'it returns false'. Refute it at one input. -/
def quotaFitsWrong : ChangeSpec := { name := "quotaFits", fn := fun _ => fun
  | [d1, d2] => { results := [.lit (.bool false)], args := [d1, d2] }
  | _ => none }
def QuotaFitsWrongFalsely : Prop := quotaFitsRow.holds Try.pinned (OpenSpec.ofChange quotaFitsWrong)

/- THE SECOND FORM. 'bulk': how many values and letters a reading holds, each counted each time it is reached (what is shared counts as often as it is met; a slice's spare places count too). A statement '..UptoSaid' is the law's where the arguments, and the package variables that the reading takes, are together of bulk at most 1048576: NARROWER than '..Said'. Prove '..Said' where nothing that the law and all that it calls make is longer than what came in: it says more and counts as full. Else prove '..UptoSaid'. A law counts once. -/
mutual
def uptoBulk {H : Type} : DataW H → Nat
  | .lit (.string bytes) => bytes.length + 1
  | .lit _ => 1
  | .nil => 1
  | .ptr d => uptoBulk d + 1
  | .slice elems spare => uptoBulkAll elems + uptoBulkAll spare + 1
  | .agg parts => uptoBulkAll parts + 1
  | .iface _ d => uptoBulk d + 1
  | .map entries => uptoBulkEntries entries + 1
  | .held _ => 1
def uptoBulkAll {H : Type} : List (DataW H) → Nat
  | [] => 0
  | d :: r => uptoBulk d + uptoBulkAll r
def uptoBulkEntries {H : Type} : List (Lit × DataW H) → Nat
  | [] => 0
  | x :: r => uptoBulkEntry x + uptoBulkEntries r
def uptoBulkEntry {H : Type} : Lit × DataW H → Nat
  | (.string bytes, d) => bytes.length + uptoBulk d + 1
  | (_, d) => uptoBulk d + 1
 end
def uptoSmall : (H : Type) → List (DataW H) → Bool := fun _ ds => decide (uptoBulkAll ds ≤ 1048576)
def OpenSpec.upto (s : _root_.Go.ChangeSpec) : _root_.Go.OpenSpec := { _root_.Go.OpenSpec.ofChange s with cond := some uptoSmall }

/-- 'forelocklaw38.QuotaBounds', WHERE WHAT IT READS IS OF BULK AT MOST 1048576: true; the input reads as it did. -/
def quotaBoundsUptoRow : OpenClaim := { program := "ytmkndabbkceknaa", sum := "5a247ae8648d07bbd487301581bca6aa8b83445c4f5db416522776243978dbd4", func := "forelock/forelocklaw38.QuotaBounds", spec := "quotaBounds", inPlace := ["math/bits.Add64"], apart := false, narrowed := true }
def QuotaBoundsUptoSaid : Prop := quotaBoundsUptoRow.holds Try.pinned (OpenSpec.upto quotaBoundsSpec)

/-- 'forelocklaw38.QuotaFits', WHERE WHAT IT READS IS OF BULK AT MOST 1048576: true; the input reads as it did. -/
def quotaFitsUptoRow : OpenClaim := { program := "ytmkndabbkceknaa", sum := "5a247ae8648d07bbd487301581bca6aa8b83445c4f5db416522776243978dbd4", func := "forelock/forelocklaw38.QuotaFits", spec := "quotaFits", inPlace := ["math/bits.Add64"], apart := false, narrowed := true }
def QuotaFitsUptoSaid : Prop := quotaFitsUptoRow.holds Try.pinned (OpenSpec.upto quotaFitsSpec)

end Rows
end Go.Proofs.Ytmkndabbkceknaa
