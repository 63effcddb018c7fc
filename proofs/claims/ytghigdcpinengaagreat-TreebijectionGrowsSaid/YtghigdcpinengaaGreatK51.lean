/-
  Texts of this claim, put together: BurntC.
-/
import Derived.Test.YtghigdcpinengaaGreatK50
/-! ref30.Burnt, by chips. -/
namespace Go.Proofs.YtghigdcpinengaaGreat
open Go.RowKit

end Go.Proofs.YtghigdcpinengaaGreat

