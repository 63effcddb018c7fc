/-
  What the frames of the graph laws share: two divisors in an array that came in.
-/
import Derived.Test.YthbannpmfdflaaaLawG
namespace Go.Proofs.Ythbannpmfdflaaa
open Go.ChangeShapes Go.WideShapes Go.ChangeAt Go.RowKit Go.Deep

theorem okWide_array {P : Program} {w : World} {r : Reach} {base : Nat} {t : TypeId} {v : Value} {n : Nat} {e : TypeId} (ht : P.underlying t = some (.array n e)) (h : Value.okWide P w r base t v) : ∃ cs, v = .agg cs ∧ cs.size = P.cellsOf t := by
  simp only [Value.okWide, ht] at h
  obtain ⟨cs, h1, h2, _⟩ := h
  exact ⟨cs, h1, h2⟩

section
variable {H : Type} {enc : TypeId × Value → H} {W : World}
set_option maxRecDepth 100000 in
/-- Two divisors. -/
theorem open_two {fuel : Nat} {cs : List Value} {x : DataW H × List MemPlace} (h : DataW.trod enc Try.prog W 0 (fun _ => true) true fuel 47 cs = some x) :
    ∃ (a : Option Addr) (cap : Nat) (xs : List Int) (a' : Option Addr) (cap' : Nat) (xs' : List Int), cs = [.slice a xs.length cap, .slice a' xs'.length cap'] ∧ xs.length ≤ maxLen ∧ Reads W W.heap.size 1 a xs.length (ints xs) ∧ (∀ x ∈ xs, (Lit.int .i64 x).wf = true) ∧
      xs'.length ≤ maxLen ∧ Reads W W.heap.size 1 a' xs'.length (ints xs') ∧ ∀ x ∈ xs', (Lit.int .i64 x).wf = true := by
  obtain ⟨ys, m, rfl, _, hlen, hys, hf⟩ := DataW.trod_array Try.underlying47 h
  rw [show Try.prog.cellsOf 47 = 2 from by kernel_rfl] at hlen
  match cs, hlen with
  | [u0, u1], _ =>
    have f0 := hf 0 (by omega)
    have f1 := hf 1 (by omega)
    rw [show Try.prog.cellsOf 26 = 1 from by kernel_rfl] at f0 f1
    rw [List.getElem?_eq_getElem (by omega)] at f0 f1
    obtain ⟨a, cap, xs, h0, h1, h2, h3⟩ := open_row Try.underlying26 f0
    obtain ⟨a', cap', xs', h0', h1', h2', h3'⟩ := open_row Try.underlying26 f1
    have e0 : u0 = .slice a xs.length cap := by simpa using h0
    have e1 : u1 = .slice a' xs'.length cap' := by simpa using h0'
    subst e0 e1
    exact ⟨a, cap, xs, a', cap', xs', rfl, h1, h2, h3, h1', h2', h3'⟩
end
end Go.Proofs.Ythbannpmfdflaaa
