/-
  Two numbers, held against each other. No condition.
-/
import Derived.Test.YtmkndabbkceknaaFixq
namespace Go.Proofs.Ytmkndabbkceknaa
def cmpF (a b : Int) : Int := if decide (a < b) then -1 else if decide (b < a) then 1 else 0
end Go.Proofs.Ytmkndabbkceknaa
