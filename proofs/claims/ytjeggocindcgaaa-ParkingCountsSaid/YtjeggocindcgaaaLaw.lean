/-
  What the laws' proofs share: a slice of ints that came in reads as a list.
-/
import Derived.Test.YtjeggocindcgaaaWords
import Derived.WalkKit
import Derived.ProofKit
import Derived.OpenShut
import Derived.ShutString
import Derived.ChangeOld
import Derived.Below
import Derived.Test.YtjeggocindcgaaaRows
namespace Go.Proofs.Ytjeggocindcgaaa
open Go.ChangeShapes Go.WideShapes Go.ChangeAt Go.RowKit

theorem own : ownKnob Try.prog.godebug = none := by kernel_rfl
theorem laidOut : laidOutB Try.prog = true := by kernel_rfl

/-- A slice of integers that came in: nil, or a row of 'cap' cells. -/
def IsRow (k : IntKind) (w : World) (a : Option Addr) (len cap : Nat) (zs : List Int) : Prop :=
  (a = none ∧ len = 0 ∧ cap = 0 ∧ zs = []) ∨
  ∃ x, a = some x ∧ len ≤ cap ∧ cap ≤ maxLen ∧ zs.length = cap ∧ (∀ i, i < zs.length → w.cell? (x.add i) = some (.int k (zs.getD i 0))) ∧ ∀ n ∈ zs, (Lit.int k n).wf = true

theorem IsRow.reads {w : World} {a : Option Addr} {len cap : Nat} {zs : List Int} (h : IsRow .i64 w a len cap zs) :
    ∃ xs : List Int, xs.length = len ∧ len ≤ maxLen ∧ Reads w w.heap.size 1 a xs.length (ints xs) ∧ ∀ x ∈ xs, (Lit.int .i64 x).wf = true := by
  rcases h with ⟨rfl, rfl, rfl, rfl⟩ | ⟨x, rfl, hl, hm, hz, hc, hw⟩
  · exact ⟨[], rfl, by simp [maxLen], Reads.nil_, by simp⟩
  · have hlen : (zs.take len).length = len := by simp; omega
    refine ⟨zs.take len, hlen, Nat.le_trans hl hm, ⟨by rw [ints_length, Nat.mul_one], fun hn => ?_⟩, fun y hy => hw y (List.mem_of_mem_take hy)⟩
    obtain ⟨b, off, spot⟩ := x
    have h0 := hc 0 (by omega)
    obtain rfl : spot = none := by simpa [Addr.add] using World.cell?_spot h0
    refine ⟨b, off, rfl, ?_, fun j u hu => ?_⟩
    · have := World.block_lt_of_cell? w _ h0
      simpa [Addr.add] using this
    · obtain ⟨hj, hju⟩ := List.getElem?_eq_some_iff.1 hu
      rw [ints_length, hlen] at hj
      have h1 := hc j (by omega)
      have h2 : (zs.take len)[j]? = some (zs.getD j 0) := by
        rw [List.getElem?_take_of_lt hj, List.getD_eq_getElem?_getD, List.getElem?_eq_getElem (by omega)]
        rfl
      rw [ints_at h2] at hu
      injection hu with hu
      rw [← hu, ← h1]
      by_cases e : j = 0
      · subst e; simp [Addr.add]
      · simp [Addr.add, e]
end Go.Proofs.Ytjeggocindcgaaa
