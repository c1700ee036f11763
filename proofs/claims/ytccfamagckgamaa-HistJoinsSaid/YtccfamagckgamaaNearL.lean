/-
  Two numbers, held against each other. No condition.
-/
import Derived.Test.YtccfamagckgamaaFixq
namespace Go.Proofs.Ytccfamagckgamaa
def cmpF (a b : Int) : Int := if decide (a < b) then -1 else if decide (b < a) then 1 else 0
theorem hilo (a b : Int) : hiF a b * 18446744073709551616 + loF a b = a * b := by
  unfold hiF loF top64
  have := Int.mul_ediv_add_emod (a * b) 18446744073709551616
  omega
end Go.Proofs.Ytccfamagckgamaa
