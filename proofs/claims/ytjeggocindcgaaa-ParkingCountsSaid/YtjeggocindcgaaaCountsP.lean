/-
  The parking functions are the superstable configurations of the complete graph, up to four cars; as many as told; the primitive ones are as many as the Catalan number.
-/
import Derived.Test.YtjeggocindcgaaaSup3
import Derived.Test.YtjeggocindcgaaaConfig
import Derived.Test.YtjeggocindcgaaaEnum29
import Derived.Test.YtjeggocindcgaaaList
namespace Go.Proofs.Ytjeggocindcgaaa
open Go.RowKit

def catN (m : Nat) : Nat := [1, 2, 5, 14].getD (m - 1) 0
/-- What the law compares. -/
def countsB (m : Nat) : Bool :=
  decide (supL (m + 1) (compl (m + 1)) 0 = (allR m).map (fun l => 0 :: l)) && decide (rootErr ((m + 1 : Nat) : Int) (compl (m + 1)) 0 = 0) && decide ((primR m).length = catN m) && decide ((countS m) = (((allR m).length : Int), 0)) && carsB m && decide ((allR m).head? = some (List.replicate m 0)) && decide ((takenS (List.replicate m 0)).2 = 0)
set_option maxRecDepth 100000 in
theorem counts1 : countsB 1 = true := by decide +kernel
set_option maxRecDepth 100000 in
theorem counts2 : countsB 2 = true := by decide +kernel
set_option maxRecDepth 100000 in
theorem counts3 : countsB 3 = true := by decide +kernel
set_option maxRecDepth 100000 in
theorem counts4 : countsB 4 = true := by decide +kernel
end Go.Proofs.Ytjeggocindcgaaa
