/-
  Texts of this claim, put together: RStab28, RAll28, RTreeF.
-/
import Derived.Test.YtghigdcpinengaaGreatK44
import Derived.Test.YtghigdcpinengaaGreatK38
import Derived.Test.YtghigdcpinengaaGreatK50
import Derived.Test.YtghigdcpinengaaGreatK41
import Derived.Test.YtghigdcpinengaaGreatK51
import Derived.Test.YtghigdcpinengaaGreatK29
/-! ref28.Stables and All: all stable configurations, the superstable ones among them. -/
namespace Go.Proofs.YtghigdcpinengaaGreat
open Go.RowKit

end Go.Proofs.YtghigdcpinengaaGreat

/-! ref28.All: all superstable configurations, found among all stable ones. -/
namespace Go.Proofs.YtghigdcpinengaaGreat
open Go.RowKit

end Go.Proofs.YtghigdcpinengaaGreat

/-! ref30.given and Tree. -/
namespace Go.Proofs.YtghigdcpinengaaGreat
open Go.RowKit

/-- What ref30.Tree hands back. -/
def RTreeF (n : Int) (es : List E3) (q : Int) (cs : List Int) (w : World) (e : Ending) (w' : World) : Prop := ∃ A1 c1 A2 c2 A3 c3 A4 k4 c4, e = .returned (.tuple #[.agg #[.slice A1 (stepsE n es q cs).1.length c1, .slice A2 (treeFE n es q cs).2.1.length c2, .slice A3 (treeFE n es q cs).1.length c3, .slice A4 k4 c4], .int .i64 (cfgErr n es q cs)]) ∧
  Reads w' w'.heap.size 1 A1 (stepsE n es q cs).1.length (ints (stepsE n es q cs).1) ∧ Reads w' w'.heap.size 1 A2 (treeFE n es q cs).2.1.length (ints (treeFE n es q cs).2.1) ∧ Reads w' w'.heap.size 1 A3 (treeFE n es q cs).1.length (ints (treeFE n es q cs).1) ∧ Below w.heap.size w w'

end Go.Proofs.YtghigdcpinengaaGreat

