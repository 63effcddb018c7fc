/-
  Texts of this claim, put together: BitsP.
-/

/-! Plain laws of sets as binary numbers. No program is in sight. -/
namespace Go.Proofs.YtplgbapbgcipdaaGreat

/-! Sets as numbers. -/
end Go.Proofs.YtplgbapbgcipdaaGreat

