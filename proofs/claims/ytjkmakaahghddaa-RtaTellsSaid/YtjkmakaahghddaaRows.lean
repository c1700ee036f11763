/-
  No cell of these rows narrows 'for every input' (looked for: loops, veiled, ifaces, maps, wideKeys, modest, calm, conditions, laid).
  DERIVED. THE GIVEN ROWS OF THIS SEAT. 3 by the template 'for every input the law returns true; each argument reads behind the call as it read before'; 0 by the template 'total and deterministic' (their statements: YtjkmakaahghddaaTotals.lean).
  GIVEN WITH THE SEED: the statements are not yours to turn. If you find one false, say at which input.
  Laid BY PROGRAM, IN A SANDBOX (cutbox-rows.mjs): the forced cells as the released guide's own fill.sh prints them over the translation 64090a8ce1a39dec… (all of the seat's roots in one cut). By AI agents, Wed Nov 11 2026. No macro, syntax, notation, axiom, sorry.
-/
import Derived.Test.YtjkmakaahghddaaChecked
import GoSem.Claim
import GoSem.ClaimJoined
import GoSem.ClaimMapViews
import Derived.JoinedTies
import Derived.KernelRfl
namespace Go.Proofs.Ytjkmakaahghddaa
/- THE CELL 'sum', in the pinned program and in every row, IS THE sha256 OF THE DUMP (.gsa) THAT YtjkmakaahghddaaProg.lean LOADS. Nothing in Lean hashes anything: it is a label: what it is worth is what the hold of that sum in a sandbox is worth. -/
noncomputable def Try.pinned : Pinned := { name := "ytjkmakaahghddaa", sum := "64090a8ce1a39dec6fbb42bbcb25028ee85007954576159fbb1c446aa79d75ba", checked := Try.checked }
namespace Rows
def none {H : Type} : Left H := { results := [], args := [] }

/-- 'forelocklaw43.RtaTells': WHATEVER THE INPUT: true; the input reads as it did. -/
def rtaTellsSpec : ChangeSpec := { name := "rtaTells", fn := fun _ => fun
  | [d1, d2, d3] => { results := [.lit (.bool true)], args := [d1, d2, d3] }
  | _ => none }
def rtaTellsRow : OpenClaim := { program := "ytjkmakaahghddaa", sum := "64090a8ce1a39dec6fbb42bbcb25028ee85007954576159fbb1c446aa79d75ba", func := "forelock/forelocklaw43.RtaTells", spec := "rtaTells", unfollowed := true, recurses := true, apart := false }
def RtaTellsSaid : Prop := rtaTellsRow.holds Try.pinned (OpenSpec.ofChange rtaTellsSpec)

/-- ITS FALSE NEIGHBOUR: 'it returns false'. Refute it at one input. -/
def rtaTellsWrong : ChangeSpec := { name := "rtaTells", fn := fun _ => fun
  | [d1, d2, d3] => { results := [.lit (.bool false)], args := [d1, d2, d3] }
  | _ => none }
def RtaTellsWrongFalsely : Prop := rtaTellsRow.holds Try.pinned (OpenSpec.ofChange rtaTellsWrong)

/-- 'forelocklaw43.RtaDone': WHATEVER THE INPUT: true; the input reads as it did. -/
def rtaDoneSpec : ChangeSpec := { name := "rtaDone", fn := fun _ => fun
  | [d] => { results := [.lit (.bool true)], args := [d] }
  | _ => none }
def rtaDoneRow : OpenClaim := { program := "ytjkmakaahghddaa", sum := "64090a8ce1a39dec6fbb42bbcb25028ee85007954576159fbb1c446aa79d75ba", func := "forelock/forelocklaw43.RtaDone", spec := "rtaDone", unfollowed := true, recurses := true, apart := false }
def RtaDoneSaid : Prop := rtaDoneRow.holds Try.pinned (OpenSpec.ofChange rtaDoneSpec)

/-- ITS FALSE NEIGHBOUR: 'it returns false'. Refute it at one input. -/
def rtaDoneWrong : ChangeSpec := { name := "rtaDone", fn := fun _ => fun
  | [d] => { results := [.lit (.bool false)], args := [d] }
  | _ => none }
def RtaDoneWrongFalsely : Prop := rtaDoneRow.holds Try.pinned (OpenSpec.ofChange rtaDoneWrong)

/-- 'forelocklaw43.RtaBlock': WHATEVER THE INPUT: true; the input reads as it did. -/
def rtaBlockSpec : ChangeSpec := { name := "rtaBlock", fn := fun _ => fun
  | [d1, d2, d3] => { results := [.lit (.bool true)], args := [d1, d2, d3] }
  | _ => none }
def rtaBlockRow : OpenClaim := { program := "ytjkmakaahghddaa", sum := "64090a8ce1a39dec6fbb42bbcb25028ee85007954576159fbb1c446aa79d75ba", func := "forelock/forelocklaw43.RtaBlock", spec := "rtaBlock", unfollowed := true, recurses := true, apart := false }
def RtaBlockSaid : Prop := rtaBlockRow.holds Try.pinned (OpenSpec.ofChange rtaBlockSpec)

/-- ITS FALSE NEIGHBOUR: 'it returns false'. Refute it at one input. -/
def rtaBlockWrong : ChangeSpec := { name := "rtaBlock", fn := fun _ => fun
  | [d1, d2, d3] => { results := [.lit (.bool false)], args := [d1, d2, d3] }
  | _ => none }
def RtaBlockWrongFalsely : Prop := rtaBlockRow.holds Try.pinned (OpenSpec.ofChange rtaBlockWrong)

/- THE SECOND FORM. 'bulk': how many values and letters a reading holds, each counted each time it is reached (what is shared counts as often as it is met; a slice's spare places count too). A statement '..UptoSaid' is the law's where the arguments, and the package variables that the reading takes, are together of bulk at most 1048576: NARROWER than '..Said'. Prove '..Said' where nothing that the law and all that it calls make is longer than what came in: it says more and counts as full. Else prove '..UptoSaid'. A law counts once. -/
mutual
def uptoBulk {H : Type} : DataW H → Nat
  | .lit (.string bytes) => bytes.length + 1
  | .lit _ => 1
  | .nil => 1
  | .ptr d => uptoBulk d + 1
  | .slice elems spare => uptoBulkAll elems + uptoBulkAll spare + 1
  | .agg parts => uptoBulkAll parts + 1
  | .iface _ d => uptoBulk d + 1
  | .map entries => uptoBulkEntries entries + 1
  | .held _ => 1
def uptoBulkAll {H : Type} : List (DataW H) → Nat
  | [] => 0
  | d :: r => uptoBulk d + uptoBulkAll r
def uptoBulkEntries {H : Type} : List (Lit × DataW H) → Nat
  | [] => 0
  | x :: r => uptoBulkEntry x + uptoBulkEntries r
def uptoBulkEntry {H : Type} : Lit × DataW H → Nat
  | (.string bytes, d) => bytes.length + uptoBulk d + 1
  | (_, d) => uptoBulk d + 1
 end
def uptoSmall : (H : Type) → List (DataW H) → Bool := fun _ ds => decide (uptoBulkAll ds ≤ 1048576)
def OpenSpec.upto (s : _root_.Go.ChangeSpec) : _root_.Go.OpenSpec := { _root_.Go.OpenSpec.ofChange s with cond := some uptoSmall }

/-- 'forelocklaw43.RtaTells', WHERE WHAT IT READS IS OF BULK AT MOST 1048576: true; the input reads as it did. -/
def rtaTellsUptoRow : OpenClaim := { program := "ytjkmakaahghddaa", sum := "64090a8ce1a39dec6fbb42bbcb25028ee85007954576159fbb1c446aa79d75ba", func := "forelock/forelocklaw43.RtaTells", spec := "rtaTells", unfollowed := true, recurses := true, apart := false, narrowed := true }
def RtaTellsUptoSaid : Prop := rtaTellsUptoRow.holds Try.pinned (OpenSpec.upto rtaTellsSpec)

/-- 'forelocklaw43.RtaDone', WHERE WHAT IT READS IS OF BULK AT MOST 1048576: true; the input reads as it did. -/
def rtaDoneUptoRow : OpenClaim := { program := "ytjkmakaahghddaa", sum := "64090a8ce1a39dec6fbb42bbcb25028ee85007954576159fbb1c446aa79d75ba", func := "forelock/forelocklaw43.RtaDone", spec := "rtaDone", unfollowed := true, recurses := true, apart := false, narrowed := true }
def RtaDoneUptoSaid : Prop := rtaDoneUptoRow.holds Try.pinned (OpenSpec.upto rtaDoneSpec)

/-- 'forelocklaw43.RtaBlock', WHERE WHAT IT READS IS OF BULK AT MOST 1048576: true; the input reads as it did. -/
def rtaBlockUptoRow : OpenClaim := { program := "ytjkmakaahghddaa", sum := "64090a8ce1a39dec6fbb42bbcb25028ee85007954576159fbb1c446aa79d75ba", func := "forelock/forelocklaw43.RtaBlock", spec := "rtaBlock", unfollowed := true, recurses := true, apart := false, narrowed := true }
def RtaBlockUptoSaid : Prop := rtaBlockUptoRow.holds Try.pinned (OpenSpec.upto rtaBlockSpec)

end Rows
end Go.Proofs.Ytjkmakaahghddaa
