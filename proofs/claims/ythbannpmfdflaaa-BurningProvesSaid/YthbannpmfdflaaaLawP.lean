/-
  What the frames of the graph laws share: a place (a sink with a list of vertices) that came in.
-/
import Derived.Test.YthbannpmfdflaaaLawG
namespace Go.Proofs.Ythbannpmfdflaaa
open Go.ChangeShapes Go.WideShapes Go.ChangeAt Go.RowKit Go.Deep

section
variable {H : Type} {enc : TypeId × Value → H} {W : World}
set_option maxRecDepth 100000 in
/-- A slice of ints, with its capacity. -/
theorem open_row_cap {t : TypeId} (ht : Try.prog.underlying t = some (.slice 3)) {fuel : Nat} {cs : List Value} {x : DataW H × List MemPlace} (h : DataW.trod enc Try.prog W 0 (fun _ => true) true fuel t cs = some x) :
    ∃ (a : Option Addr) (cap : Nat) (xs : List Int), cs = [.slice a xs.length cap] ∧ xs.length ≤ maxLen ∧ Reads W W.heap.size 1 a xs.length (ints xs) ∧ (∀ x ∈ xs, (Lit.int .i64 x).wf = true) ∧ xs.length ≤ cap := by
  obtain ⟨a, len, cap, zs, hcs, hz, hlc⟩ : ∃ a len cap zs, cs = [.slice a len cap] ∧ IsRow .i64 W a len cap zs ∧ len ≤ cap := by
    rcases open_ints ht Try.underlying3 (by kernel_rfl) h with ⟨hcs, _⟩ | ⟨x, l, c, zs, hcs, _, hl, hm, hz, _, hcell, hwz⟩
    · exact ⟨none, 0, 0, [], hcs, .inl ⟨rfl, rfl, rfl, rfl⟩, Nat.le_refl _⟩
    · exact ⟨_, _, _, zs, hcs, .inr ⟨_, rfl, hl, hm, by simpa using hz, hcell, hwz⟩, hl⟩
  obtain ⟨xs, rfl, hm, hr, hw⟩ := hz.reads
  exact ⟨a, cap, xs, hcs, hm, hr, hw, hlc⟩
set_option maxRecDepth 100000 in
/-- A place. -/
theorem open_place {fuel : Nat} {cs : List Value} {x : DataW H × List MemPlace} (h : DataW.trod enc Try.prog W 0 (fun _ => true) true fuel 51 cs = some x) :
    ∃ (q : Int) (a : Option Addr) (cap : Nat) (xs : List Int), cs = [.int .i64 q, .slice a xs.length cap] ∧ (xs.length ≤ maxLen ∧ xs.length ≤ cap) ∧ Reads W W.heap.size 1 a xs.length (ints xs) ∧ (Lit.int .i64 q).wf = true := by
  obtain ⟨ys, m, rfl, _, hlen, hys, hf⟩ := DataW.trod_struct Try.underlying51 h
  rw [show Try.prog.cellsOf 51 = 2 from by kernel_rfl] at hlen
  match cs, hlen with
  | [u0, u1], _ =>
    have f0 := hf 0 _ rfl
    have f1 := hf 1 _ rfl
    have hsz : ys.length = 2 := hys
    obtain ⟨y0, hy0⟩ : ∃ y, ys[0]? = some y := ⟨_, List.getElem?_eq_getElem (by omega)⟩
    obtain ⟨y1, hy1⟩ : ∃ y, ys[1]? = some y := ⟨_, List.getElem?_eq_getElem (by omega)⟩
    rw [hy0] at f0
    rw [hy1] at f1
    have ci : Try.prog.cellsOf 3 = 1 := by kernel_rfl
    have cl : Try.prog.cellsOf 25 = 1 := by kernel_rfl
    simp [ci, cl] at f0 f1
    obtain ⟨n, hn, _, hw⟩ := DataW.trod_int Try.underlying3 f0
    injection hn with hn
    subst hn
    obtain ⟨a, cap, xs, hcs, h1, h2, _, h4⟩ := open_row_cap Try.underlying25 f1
    injection hcs with hcs
    subst hcs
    exact ⟨n, a, cap, xs, rfl, ⟨h1, h4⟩, h2, hw⟩
end
end Go.Proofs.Ythbannpmfdflaaa
