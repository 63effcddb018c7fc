/-
  Connectedness, as a bool.
-/
import Derived.Test.YtjeggocindcgaaaEdge
import Derived.Test.YtjeggocindcgaaaGraphP
namespace Go.Proofs.Ytjeggocindcgaaa
open Go.RowKit

/-- Is a right graph connected? -/
def connB (n : Nat) (es : List E3) : Bool := decide ((partsTo es n n).1 = 1)
theorem connB_iff {n : Nat} {es : List E3} (hG : RightG n es) : connB n es = true ↔ AllConn n es := by
  rw [← partsTo_connected hG]; simp [connB]
theorem connB_joins {n : Nat} {es : List E3} {f : List Nat} (hG : RightG n es) (h : Joins es f) : connB n es = decide (rootsTo f n = 1) := by
  rw [Bool.eq_iff_iff, connB_iff hG, ← joins_connected h hG]; simp

end Go.Proofs.Ytjeggocindcgaaa
