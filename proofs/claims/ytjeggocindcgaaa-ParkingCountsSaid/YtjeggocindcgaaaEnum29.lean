/-
  The plain law: the parking functions of up to five cars, as they are enumerated and as they are found among all lists.
-/
import Derived.Test.YtjeggocindcgaaaFns
import Derived.Test.YtjeggocindcgaaaPlain29
namespace Go.Proofs.Ytjeggocindcgaaa
open Go.RowKit

/-- The digits of a number to a base, the highest first. -/
def digGo (base : Nat) : Nat → Nat → List Int → List Int
  | 0, _, acc => acc
  | k + 1, m, acc => digGo base k (m / base) (((m % base : Nat) : Int) :: acc)
def digS (n m : Nat) : List Int := digGo n n m []
def allTo (n k : Nat) : List (List Int) := ((List.range k).map (digS n)).filter isR
def allR (n : Nat) : List (List Int) := allTo n (n ^ n)
/-- Does a list not descend up to index k? -/
def ascTo (l : List Int) : Nat → Bool
  | 0 => true
  | k + 1 => ascTo l k && (decide (k = 0) || decide (l[k - 1]?.getD 0 ≤ l[k]?.getD 0))
def primR (n : Nat) : List (List Int) := (allR n).filter fun l => ascTo l n

theorem enum1 : pfl 1 (fun _ => 0) 1 [] = allR 1 ∧ pfl 1 lastOr 1 [] = primR 1 := by decide +kernel
theorem enum2 : pfl 2 (fun _ => 0) 2 [] = allR 2 ∧ pfl 2 lastOr 2 [] = primR 2 := by decide +kernel
theorem enum3 : pfl 3 (fun _ => 0) 3 [] = allR 3 ∧ pfl 3 lastOr 3 [] = primR 3 := by decide +kernel
theorem enum4 : pfl 4 (fun _ => 0) 4 [] = allR 4 ∧ pfl 4 lastOr 4 [] = primR 4 := by decide +kernel
theorem enum5 : pfl 5 (fun _ => 0) 5 [] = allR 5 ∧ pfl 5 lastOr 5 [] = primR 5 := by decide +kernel
theorem enum_len : (allR 1).length ≤ 16384 ∧ (allR 2).length ≤ 16384 ∧ (allR 3).length ≤ 16384 ∧ (allR 4).length ≤ 16384 ∧ (allR 5).length ≤ 16384 := by decide +kernel
end Go.Proofs.Ytjeggocindcgaaa
